/-
  No statement is proved here: what the queue's Clone comes to (a walk of the code).
-/
import Derived.Test.YtfdgkikgafojpaaQsort
namespace Go.Proofs.Ytfdgkikgafojpaa
open Go.RowKit Go.Maps

/-- What stands between two rounds of Clone: the new queue has the first i entries. -/
structure CloneAt (w0 w : World) (g mb : Nat) (v : Value) (l : List Ent) (i : Nat) : Prop where
  pile : Pile w w0.heap.size g mb v (l.take i)
  map : MapAt Try.prog 62 w mb (((l.take i).map Ent.key).map kent)
  hg : w0.heap.size ≤ g
  hm : w0.heap.size ≤ mb
  t : Tch None_ w0 w
theorem CloneAt.keep {w0 w w' : World} {g mb : Nat} {v : Value} {l : List Ent} {i : Nat} (h : CloneAt w0 w g mb v l i) (ht : Tch None_ w w') : CloneAt w0 w' g mb v l i :=
  ⟨h.pile.keep ht, h.map.keep ht, h.hg, h.hm, h.t.quiet ht⟩
theorem take_succ_el {l : List Ent} {i : Nat} (hi : i < l.length) : l.take (i + 1) = l.take i ++ [el l i] := by
  rw [List.take_add_one, List.getElem?_eq_getElem hi, el_get hi]; rfl
/-- The append of a round. -/
theorem CloneAt.push {w0 wr W w3 : World} {g mb gg cap i : Nat} {v : Value} {l : List Ent} (h : CloneAt w0 wr g mb v l i) (hi : i < l.length) (tW : Tch None_ wr W) (ho : w3.ownsRow w0.heap.size 33 8 (.slice (some ⟨gg, 0, none⟩) (i + 1) cap) (i + 1) ((l.take i).flatMap Ent.cells ++ (el l i).cells)) (hg : W.grownBy w3 v.ownBlock)
    (hat : v.ownBlock = some gg ∨ W.heap.size ≤ gg) : Pile (w3.setCell ⟨g, 0, none⟩ (.slice (some ⟨gg, 0, none⟩) (i + 1) cap)) w0.heap.size g mb (.slice (some ⟨gg, 0, none⟩) (i + 1) cap) (l.take (i + 1)) ∧
      MapAt Try.prog 62 (w3.setCell ⟨g, 0, none⟩ (.slice (some ⟨gg, 0, none⟩) (i + 1) cap)) mb (((l.take i).map Ent.key).map kent) ∧ Tch None_ w0 (w3.setCell ⟨g, 0, none⟩ (.slice (some ⟨gg, 0, none⟩) (i + 1) cap)) := by
  have hgg : gg ≠ g := by
    rcases hat with hat | hat
    · exact h.pile.ne _ hat
    · have := h.pile.box.lt; have := tW.size; omega
  have T : Tch (fun j => some j = v.ownBlock) wr w3 := (Tch.any tW).grown hg (fun k hk => .inl hk.symm)
  have T2 : Tch (fun j => j = g) w3 (w3.setCell ⟨g, 0, none⟩ (.slice (some ⟨gg, 0, none⟩) (i + 1) cap)) := (Tch.refl (fun j => j = g) w3).setCell (p := ⟨g, 0, none⟩) (.inl rfl) _
  have hng : ¬ some g = v.ownBlock := fun e => h.pile.ne g e.symm rfl
  have hnm : ¬ some mb = v.ownBlock := fun e => h.map.ne_own h.pile.row mb e.symm rfl
  have hmg : ¬ mb = g := fun e => h.map.ne_blk h.pile.box e.symm
  have hlen : (l.take (i + 1)).length = i + 1 := by rw [List.length_take]; omega
  refine ⟨⟨(h.pile.box.tch T hng).set_ 0 _, ?_⟩, (h.map.tch T hnm).tch T2 hmg, ?_⟩
  · rw [hlen, take_succ_el hi, List.flatMap_append]
    have := T2.row ho (fun k hk e => hgg (by simpa [Value.ownBlock, e] using hk))
    simpa using this
  · refine (h.t.trans T (fun j hj e => ?_)).trans T2 (fun j hj e => ?_)
    · have := (h.pile.row.lt j e.symm).1; omega
    · have := h.hg; omega
/-- The end: a queue as fresh as can be. -/
theorem CloneAt.done {w0 w : World} {g mb : Nat} {v v0 : Value} {l : List Ent} {g0 mb0 : Nat} {w1 : World} (h : CloneAt w0 w g mb v l l.length) (hq : QAt w1 g0 mb0 v0 l) {s : List Ent} (hp : l.Perm s) (hs : SortedE s) : QF w0 w g mb v s := by
  have hpile := h.pile
  have hmap := h.map
  rw [List.take_length] at hpile hmap
  exact ⟨⟨⟨l, ⟨⟨hpile.box, own_base hpile.row (Nat.zero_le _)⟩, hq.heap, ⟨_, hmap, List.Perm.refl _⟩, hq.keys, hq.ok, hq.len⟩, hp⟩, hs⟩, h.hg, h.hm, fun k hk => (hpile.row.lt k hk).1, h.t⟩

theorem putKey (W : World) (mb : Nat) (ks : List (Int × Int × Int)) (e : Ent) (he : okK e.key) (hm : MapAt Try.prog 62 W mb (ks.map kent)) (hno : e.key ∉ ks) :
    ∃ w2, (Instr.mapUpdate 57 (.map (some mb)) (keyOfK e.key) (.int .i64 1)).run Try.prog W = .ok () w2 ∧ MapAt Try.prog 62 w2 mb ((ks ++ [e.key]).map kent) ∧ Tch (fun k => k = mb) W w2 := by
  obtain ⟨kl, hkl⟩ := keyQ e.key he
  obtain ⟨w2, h1, h2, h3, h4⟩ := hm.put_new lawKey Try.underlying57 hkl (val := .int .i64 1) (fun p hp' e' => by
    obtain ⟨k, hk, rfl⟩ := List.mem_map.1 hp'
    exact hno (by rw [← keyOfK_inj e']; exact hk))
  exact ⟨w2, h1, by simpa [kent] using h2, h3⟩
theorem clone_new {l : List Ent} {i : Nat} (h : Keys1 l) (hi : i < l.length) : (el l i).key ∉ (l.take i).map Ent.key := by
  unfold Keys1 at h
  have h1 : l = l.take (i + 1) ++ l.drop (i + 1) := (List.take_append_drop _ _).symm
  rw [h1, take_succ_el hi, List.map_append, List.map_append, List.nodup_append] at h
  have h2 := (List.nodup_append.1 h.1).2.2
  intro hm
  exact h2 _ hm _ (by simp) rfl
set_option maxRecDepth 100000 in
set_option maxHeartbeats 2000000 in
theorem QsClone (g mb : Nat) (v : Value) (s : List Ent) (w : World) (h : QS w g mb v s) :
    Calls Try.prog 15 #[.pointer (some ⟨g, 0, none⟩)] w fun x w' => ∃ g2 mb2 v2, x = .returned (.pointer (some ⟨g2, 0, none⟩)) ∧ QF w w' g2 mb2 v2 s := by
  obtain ⟨i0, hi0, hz0, hz1, hz2⟩ := info_parts infoEnt
  obtain ⟨l, hq, hp⟩ := h.ex
  have HUP := h.up
  have HP := Lib.hid hp
  have HQ := Lib.hid hq
  have HSL := hq.len
  clear h hp
  go_enter Try.func15, Try.ntmps15
  go_wp2_with fail
  refine (QNew_any w).mono ?_
  rintro x w1 ⟨g2, mb2, rfl, hq1, hg1, hm1, t1⟩
  have HC1 : Hid (CloneAt w w1 g2 mb2 (.slice none 0 0) l 0) := by
    obtain ⟨ks, hm, hpk⟩ := hq1.map
    obtain rfl : ks = [] := List.perm_nil.1 hpk
    exact ⟨⟨hq1.pile.box, World.ownsRow_nil _ _ _ _⟩, hm, hg1, hm1, t1⟩
  have c0 := (hq.keep t1).pile.box.cell 0
  simp at c0
  obtain ⟨A, c, rfl, _, _⟩ := own_form hq.pile.row
  have HT1 := Lib.hid t1
  clear hq hq1 hg1 hm1 t1
  go_wp2_with fail
  go_loopg [12] l.length (fun gh s12 wr => ∃ (i : Nat) (v2 : Value), s12 = .int .i64 i ∧ l.length - i = gh ∧ i ≤ l.length ∧ Hid (CloneAt w wr g2 mb2 v2 l i))
  case atStart => exact ⟨0, _, rfl, rfl, by omega, HC1.out⟩
  case round =>
    obtain ⟨i, v2, rfl, rfl, hi, HC⟩ := hrel
    by_cases hlt : i < l.length
    · obtain ⟨b, cs, rfl, _⟩ := Blk.of_own (HQ.out.keep HC.out.t).pile.row (show 0 < l.length by omega)
      obtain ⟨x0, x1, x2, x3, x4, x5, x6, x7⟩ := own_at8 (HQ.out.keep HC.out.t).pile.row i hlt
      have HU := Lib.hid (fun (W : World) (ks : List (Int × Int × Int)) (e : Ent) (he : okK e.key) (hm : MapAt Try.prog 62 W mb2 (ks.map kent)) (hno : e.key ∉ ks) => putKey W mb2 ks e he hm hno)
      have hmem : el l i ∈ l := el_mem hlt
      have HOK := Lib.hid (HQ.out.ok _ hmem)
      have HNO : Hid ((el l i).key ∉ (l.take i).map Ent.key) := clone_new HQ.out.keys hlt
      have HK := Lib.hid (fun W => keyOf_any (el l i) W)
      obtain ⟨A2, c2, rfl, _, _⟩ := own_form HC.out.pile.row
      have hli : (l.take i).length = i := by rw [List.length_take]; omega
      go_upto_region 5 with fail
      have HC' := Lib.hid (HC.out.keep ((Tch.refl None_ wr).alloc (.cells #[.int .i64 (el l i).fr, .int .i64 (el l i).pe, .int .i64 (el l i).sq, .int .i64 (el l i).vb, .int .i64 (el l i).a, .int .i64 (el l i).b, .int .i64 (el l i).c, .int .i64 (el l i).ms] 33)))
      have eb := Blk.new wr 33 (el l i).arr
      unfold Ent.arr at eb
      have HLW := Lib.hid HC.out.t.size
      have HTW := Lib.hid ((Tch.refl None_ wr).alloc (.cells #[.int .i64 (el l i).fr, .int .i64 (el l i).pe, .int .i64 (el l i).sq, .int .i64 (el l i).vb, .int .i64 (el l i).a, .int .i64 (el l i).b, .int .i64 (el l i).c, .int .i64 (el l i).ms] 33))
      generalize hW : wr.alloc (.cells #[.int .i64 (el l i).fr, .int .i64 (el l i).pe, .int .i64 (el l i).sq, .int .i64 (el l i).vb, .int .i64 (el l i).a, .int .i64 (el l i).b, .int .i64 (el l i).c, .int .i64 (el l i).ms] 33) = W at *
      have HEB := Lib.hid eb
      have c0 : W.cell? ⟨g2, 0, none⟩ = some (.slice A2 i c2) := by simpa [hli] using HC'.out.pile.box.cell 0
      have hgl := HC'.out.pile.box.lt
      have hf0 := HC'.out.pile.box.frozen 0
      have hrow := HC'.out.pile.row
      rw [hli] at hrow
      have hnb : (Value.slice A2 i c2).ownBlock ≠ some wr.heap.size := fun h => by
        have := (HC.out.pile.row.lt wr.heap.size (by simpa [hli] using h)).2; omega
      have hng : (Value.slice A2 i c2).ownBlock ≠ some g2 := fun h => HC'.out.pile.ne g2 (by simpa [hli] using h) rfl
      have h63 : i + 1 ≤ maxLen := by simp only [maxLen]; omega
      have h64 : (i + 1) * 64 ≤ 140737488355328 := by omega
      have e0 := eb.cell 0
      have e1 := eb.cell 1
      have e2 := eb.cell 2
      have e3 := eb.cell 3
      have e4 := eb.cell 4
      have e5 := eb.cell 5
      have e6 := eb.cell 6
      have e7 := eb.cell 7
      simp at e0 e1 e2 e3 e4 e5 e6 e7
      have hlw : w.heap.size ≤ W.heap.size := HC'.out.t.size
      clear eb x0 x1 x2 x3 x4 x5 x6 x7 hW
      go_region_law
        ((refine step_append_lies _ (by rfl) _ _ _ (by rfl) w.heap.size 33 i0 _ 8 64 Try.underlying58 hi0 hz0 hz1 hz2 rfl (by omega) _ _ _ (by rfl) ((hrow.drew).alloc (.cells #[.int .i64 (el l i).fr, .int .i64 (el l i).pe, .int .i64 (el l i).sq, .int .i64 (el l i).vb, .int .i64 (el l i).a, .int .i64 (el l i).b, .int .i64 (el l i).c, .int .i64 (el l i).ms] 33))
            ⟨W.heap.size, 0, none⟩ 1 1 [.int .i64 (el l i).fr, .int .i64 (el l i).pe, .int .i64 (el l i).sq, .int .i64 (el l i).vb, .int .i64 (el l i).a, .int .i64 (el l i).b, .int .i64 (el l i).c, .int .i64 (el l i).ms] (by rfl) (by rfl) (World.news_of_block (cs := #[.int .i64 (el l i).fr, .int .i64 (el l i).pe, .int .i64 (el l i).sq, .int .i64 (el l i).vb, .int .i64 (el l i).a, .int .i64 (el l i).b, .int .i64 (el l i).c, .int .i64 (el l i).ms]) (t := 33) (fr := (0, 0)) (heap_alloc_new W.drew _)) (by simp [Value.oneCell'])
            (by omega) h63 h64 (by simp; omega) (W.heap.size + 1) (by simp) ?_; intro gg cap w3 hown3 hgrow3 hat3 hlt3; have hc3 := hgrow3.cell_far ⟨g2, 0, none⟩ (by simp; omega) (Ne.symm hng); have hf3 := hgrow3.frozen_far ⟨g2, 0, none⟩ (by simp; omega) (Ne.symm hng)))
      all_goals
        clear hc3 hf3
        have HC2 := HC'.out
        rw [hli] at HC2
        have T1 := ((Tch.refl None_ W).alloc (.cells #[.int .i64 (el l i).fr, .int .i64 (el l i).pe, .int .i64 (el l i).sq, .int .i64 (el l i).vb, .int .i64 (el l i).a, .int .i64 (el l i).b, .int .i64 (el l i).c, .int .i64 (el l i).ms] 33)).drew
        have T2 : Tch (fun k => k ≠ wr.heap.size) W w3 := (Tch.any T1).grown hgrow3 (fun k hk => .inl (fun h => hnb (h ▸ hk)))
        have T3 : Tch (fun k => k ≠ wr.heap.size) w3 (w3.setCell ⟨g2, 0, none⟩ (.slice (some ⟨gg, 0, none⟩) (i + 1) cap)) := (Tch.refl _ w3).setCell (p := ⟨g2, 0, none⟩) (.inl (by have := HC.out.pile.box.lt; show g2 ≠ wr.heap.size; omega)) _
        obtain ⟨hP, hM, hT⟩ := HC2.push hlt T1 hown3 hgrow3 (by
          rcases hat3 with h | h
          · exact .inl h
          · exact .inr (by simp; omega))
        have HE3 := Lib.hid ((HEB.out.tch T2 (fun h => h rfl)).tch T3 (fun h => h rfl))
        clear HC2 T1 T2 T3 hown3 hgrow3 hat3 hlt3 e0 e1 e2 e3 e4 e5 e6 e7 c0 hf0 hrow
        generalize w3.setCell ⟨g2, 0, none⟩ (.slice (some ⟨gg, 0, none⟩) (i + 1) cap) = V at *
        have HPV := Lib.hid hP
        have HMV := Lib.hid hM
        have HTV := Lib.hid hT
        clear hP hM hT
        have HS : Hid (∀ w', Tch (fun k => k = mb2) V w' → w'.cell? ⟨g2, 1, none⟩ = some (.map (some mb2)) ∧ w'.cell? ⟨wr.heap.size, 0, none⟩ = some (.int .i64 (el l i).fr) ∧ w'.cell? ⟨wr.heap.size, 1, none⟩ = some (.int .i64 (el l i).pe) ∧ w'.cell? ⟨wr.heap.size, 2, none⟩ = some (.int .i64 (el l i).sq) ∧ w'.cell? ⟨wr.heap.size, 3, none⟩ = some (.int .i64 (el l i).vb) ∧ w'.cell? ⟨wr.heap.size, 4, none⟩ = some (.int .i64 (el l i).a) ∧ w'.cell? ⟨wr.heap.size, 5, none⟩ = some (.int .i64 (el l i).b) ∧ w'.cell? ⟨wr.heap.size, 6, none⟩ = some (.int .i64 (el l i).c) ∧ w'.cell? ⟨wr.heap.size, 7, none⟩ = some (.int .i64 (el l i).ms)) := by
          intro w' h
          have k1 := HE3.out.tch h (fun e => by have := HC.out.map.lt; omega)
          exact ⟨by simpa using (HPV.out.box.tch h (fun e => HMV.out.ne_blk HPV.out.box e)).cell 1, by simpa using k1.cell 0, by simpa using k1.cell 1, by simpa using k1.cell 2, by simpa using k1.cell 3, by simpa using k1.cell 4, by simpa using k1.cell 5, by simpa using k1.cell 6, by simpa using k1.cell 7⟩
        go_wp2_with fail
        go_region_held3 (fun w' => w'.cell? ⟨g2, 1, none⟩ = some (.map (some mb2)) ∧ w'.cell? ⟨wr.heap.size, 0, none⟩ = some (.int .i64 (el l i).fr) ∧ w'.cell? ⟨wr.heap.size, 1, none⟩ = some (.int .i64 (el l i).pe) ∧ w'.cell? ⟨wr.heap.size, 2, none⟩ = some (.int .i64 (el l i).sq) ∧ w'.cell? ⟨wr.heap.size, 3, none⟩ = some (.int .i64 (el l i).vb) ∧ w'.cell? ⟨wr.heap.size, 4, none⟩ = some (.int .i64 (el l i).a) ∧ w'.cell? ⟨wr.heap.size, 5, none⟩ = some (.int .i64 (el l i).b) ∧ w'.cell? ⟨wr.heap.size, 6, none⟩ = some (.int .i64 (el l i).c) ∧ w'.cell? ⟨wr.heap.size, 7, none⟩ = some (.int .i64 (el l i).ms))
          ((refine HS.out _ ?_; first | exact (Tch.any hq5).then ht6 | exact Tch.any hq5 | exact Tch.any (Tch.refl None_ _).drew))
          ((go_at_call 21; (with_reducible refine (HK.out _).mono ?_); rintro x w5 ⟨rfl, g5, _⟩; have hq5 : Tch None_ V w5 := (Tch.refl _ _).drew.then g5.tch; obtain ⟨w6, hrun, hm6, ht6⟩ := HU.out _ _ _ HOK.out (HMV.out.keep hq5) HNO.out; simp only [keyOfK, Ent.key] at hrun))
        have HN : Hid (CloneAt w w6 g2 mb2 (.slice (some ⟨gg, 0, none⟩) (i + 1) cap) l (i + 1)) := by
          have T6 : Tch (fun k => k = mb2) V w6 := (Tch.any hq5).then ht6
          refine ⟨HPV.out.tch T6 (fun e => HMV.out.ne_blk HPV.out.box e) (fun k hk e => HMV.out.ne_own HPV.out.row k hk e), ?_, HC.out.hg, HC.out.hm, HTV.out.trans T6 (fun j hj e => by have := HC.out.hm; omega)⟩
          rw [take_succ_el hlt, List.map_append]
          exact hm6
        clear hm6 ht6 HPV HMV HTV HS hrun hq5
        go_wp2_with fail
        go_roundg (l.length - (i + 1))
        case measure => omega
        case rel => exact ⟨i + 1, _, by go_num, rfl, by omega, HN.out⟩
    · obtain rfl : i = l.length := by omega
      go_wp2_with fail
      go_ret
      exact ⟨_, _, _, rfl, HC.out.done HQ.out HP.out HUP⟩
end Go.Proofs.Ytfdgkikgafojpaa
