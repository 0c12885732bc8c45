/-
  No statement is proved here: what the queue's Push comes to (walks of the code).
-/
import Derived.Test.YtfdgkikgafojpaaQl
namespace Go.Proofs.Ytfdgkikgafojpaa
open Go.RowKit Go.Maps

set_option maxRecDepth 100000 in
set_option maxHeartbeats 1000000 in
theorem QPush_twice (g mb : Nat) (v : Value) (l : List Ent) (e : Ent) (w : World) (h : QAt w g mb v l) (he : okK e.key) (hmem : e.key ∈ l.map Ent.key) :
    Calls Try.prog 9 #[.pointer (some ⟨g, 0, none⟩), e.val] w fun x w' => x = .returned (.int .i64 151) ∧ Tch None_ w w' := by
  have HK := Lib.hid (fun W => keyOf_any e W)
  have HQ := Lib.hid (fun W (ht : Tch None_ w W) => ((h.keep ht).look e he).2 hmem)
  have HB := Lib.hid (fun W (ht : Tch None_ w W) => (h.pile.box.keep ht).cell 1)
  have HG := Lib.hid h.glt
  clear h hmem
  unfold Ent.val
  go_enter Try.func9, Try.ntmps9
  go_upto_region 2 with (go_at_call 21; (with_reducible refine (HK.out _).mono ?_); rintro x w1 ⟨rfl, hg1, hz1⟩)
  have T : Tch None_ w (w1.alloc (.cells #[.int .i64 e.fr, .int .i64 e.pe, .int .i64 e.sq] 62)) := (((Tch.refl _ w).alloc _).quiet hg1.tch).alloc _
  have kb := Blk.new w1 62 #[.int .i64 e.fr, .int .i64 e.pe, .int .i64 e.sq]
  clear hg1 hz1
  generalize w1.alloc (.cells #[.int .i64 e.fr, .int .i64 e.pe, .int .i64 e.sq] 62) = W at *
  have c1 := HB.out W T
  have k0 := kb.cell 0
  have k1 := kb.cell 1
  have k2 := kb.cell 2
  simp at c1 k0 k1 k2
  have hlook := fun n => HQ.out (W.drewN n) (T.drewN n)
  simp only [keyOfK, Ent.key] at hlook
  clear HQ HB HK
  go_quiet (fail)
  go_wp2_with fail
  go_ret
  exact ⟨rfl, T.drewN _⟩
set_option maxRecDepth 100000 in
set_option maxHeartbeats 1000000 in
theorem QPush_full (g mb : Nat) (v : Value) (l : List Ent) (e : Ent) (w : World) (h : QAt w g mb v l) (he : okK e.key) (hmem : e.key ∉ l.map Ent.key) (hf : l.length = 4096) :
    Calls Try.prog 9 #[.pointer (some ⟨g, 0, none⟩), e.val] w fun x w' => x = .returned (.int .i64 150) ∧ Tch None_ w w' := by
  have HK := Lib.hid (fun W => keyOf_any e W)
  have HQ := Lib.hid (fun W (ht : Tch None_ w W) => ((h.keep ht).look e he).1 hmem)
  have HB := Lib.hid (fun W (ht : Tch None_ w W) => (h.pile.box.keep ht).cell 1)
  have HG := Lib.hid h.glt
  have hf' : 4096 ≤ l.length := by omega
  have HC := Lib.hid (fun W (ht : Tch None_ w W) => (h.pile.box.keep ht).cell 0)
  obtain ⟨A, c, rfl, _, _⟩ := own_form h.pile.row
  clear hf
  clear h hmem
  unfold Ent.val
  go_enter Try.func9, Try.ntmps9
  go_upto_region 2 with (go_at_call 21; (with_reducible refine (HK.out _).mono ?_); rintro x w1 ⟨rfl, hg1, hz1⟩)
  have T : Tch None_ w (w1.alloc (.cells #[.int .i64 e.fr, .int .i64 e.pe, .int .i64 e.sq] 62)) := (((Tch.refl _ w).alloc _).quiet hg1.tch).alloc _
  have kb := Blk.new w1 62 #[.int .i64 e.fr, .int .i64 e.pe, .int .i64 e.sq]
  clear hg1 hz1
  generalize w1.alloc (.cells #[.int .i64 e.fr, .int .i64 e.pe, .int .i64 e.sq] 62) = W at *
  have c1 := HB.out W T
  have c0 := HC.out W T
  have k0 := kb.cell 0
  have k1 := kb.cell 1
  have k2 := kb.cell 2
  simp at c0 c1 k0 k1 k2
  have hlook := fun n => HQ.out (W.drewN n) (T.drewN n)
  simp only [keyOfK, Ent.key] at hlook
  clear HQ HB HK HC
  go_quiet (fail)
  go_wp2_with fail
  go_ret
  exact ⟨rfl, T.drewN _⟩

set_option maxRecDepth 100000 in
set_option maxHeartbeats 1000000 in
theorem QPush_ok (g mb : Nat) (v : Value) (l : List Ent) (e : Ent) (w : World) (h : QAt w g mb v l) (he : okK e.key) (hmem : e.key ∉ l.map Ent.key) (hf : l.length < 4096) :
    Calls Try.prog 9 #[.pointer (some ⟨g, 0, none⟩), e.val] w fun x w' => x = .returned (.int .i64 0) ∧ ∃ v' l', l'.Perm (l ++ [e]) ∧ QAt w' g mb v' l' ∧ Tch (fun k => (k = g ∨ k = mb) ∨ v.ownBlock = some k) w w' ∧ (v'.ownBlock = v.ownBlock ∨ ∃ k, v'.ownBlock = some k ∧ w.heap.size ≤ k) := by
  have HK := Lib.hid (fun W => keyOf_any e W)
  have HQ := Lib.hid (fun W (ht : Tch None_ w W) => ((h.keep ht).look e he).1 hmem)
  have HB := Lib.hid (fun W (ht : Tch None_ w W) => (h.pile.box.keep ht).cell 1)
  have HG := Lib.hid h.glt
  have HC := Lib.hid (fun W (ht : Tch None_ w W) => (h.pile.box.keep ht).cell 0)
  have hf' : ¬ 4096 ≤ l.length := by omega
  have HUP : Hid (∀ W, Tch None_ w W → ∃ w2, (Instr.mapUpdate 57 (.map (some mb)) (keyOfK e.key) (.int .i64 1)).run Try.prog W = .ok () w2 ∧ (∃ ks : List (Int × Int × Int), MapAt Try.prog 62 w2 mb (ks.map kent) ∧ ks.Perm ((l ++ [e]).map Ent.key)) ∧ Tch (fun k => k = mb) W w2) := by
    intro W ht
    obtain ⟨ks, hm, hp⟩ := (h.keep ht).map
    obtain ⟨kl, hkl⟩ := keyQ e.key he
    obtain ⟨w2, h1, h2, h3, h4⟩ := hm.put_new lawKey Try.underlying57 hkl (val := .int .i64 1) (fun p hp' e' => by
      obtain ⟨k, hk, rfl⟩ := List.mem_map.1 hp'
      exact hmem (by rw [← keyOfK_inj e']; exact hp.mem_iff.1 hk))
    refine ⟨w2, h1, ⟨ks ++ [e.key], by simpa [kent] using h2, ?_⟩, h3⟩
    rw [List.map_append]
    exact hp.append_right _
  have HH := Lib.hid h
  have HM := Lib.hid hmem
  have hne := h.ne
  have hmlt := h.mlt
  have hglt := h.glt
  obtain ⟨A, c, rfl, _, _⟩ := own_form h.pile.row
  clear h hmem
  unfold Ent.val
  go_enter Try.func9, Try.ntmps9
  go_upto_region 2 with (go_at_call 21; (with_reducible refine (HK.out _).mono ?_); rintro x w1 ⟨rfl, hg1, hz1⟩)
  have T : Tch None_ w (w1.alloc (.cells #[.int .i64 e.fr, .int .i64 e.pe, .int .i64 e.sq] 62)) := (((Tch.refl _ w).alloc _).quiet hg1.tch).alloc _
  have kb := Blk.new w1 62 #[.int .i64 e.fr, .int .i64 e.pe, .int .i64 e.sq]
  have eb := ((Blk.new w 33 #[.int .i64 e.fr, .int .i64 e.pe, .int .i64 e.sq, .int .i64 e.vb, .int .i64 e.a, .int .i64 e.b, .int .i64 e.c, .int .i64 e.ms]).keep hg1.tch).alloc (.cells #[.int .i64 e.fr, .int .i64 e.pe, .int .i64 e.sq] 62)
  have hge : w.heap.size ≤ w1.heap.size := by have := hg1.size; simp at this; omega
  clear hg1 hz1
  generalize w1.alloc (.cells #[.int .i64 e.fr, .int .i64 e.pe, .int .i64 e.sq] 62) = W at *
  have c1 := HB.out W T
  have c0 := HC.out W T
  have k0 := kb.cell 0
  have hkl := kb.lt
  have k1 := kb.cell 1
  have k2 := kb.cell 2
  simp at c0 c1 k0 k1 k2
  have hlook := fun n => HQ.out (W.drewN n) (T.drewN n)
  simp only [keyOfK, Ent.key] at hlook
  clear HQ HB HK HC
  go_quiet (fail)
  clear hlook
  go_wp2_with fail
  have TV := T.drewN nq
  have kbV := kb.drewN nq
  have ebV := eb.drewN nq
  clear T kb eb c0 c1 k0 k1 k2
  generalize W.drewN nq = V at *
  obtain ⟨w2, hrun, ⟨ks, hm2, hp2⟩, ht2⟩ := HUP.out V.drew TV.drew
  simp only [keyOfK, Ent.key] at hrun
  have c1 : V.cell? ⟨g, 1, none⟩ = some (.map (some mb)) := by simpa using (HH.out.pile.box.keep TV).cell 1
  have k0 := kbV.cell 0
  have k1 := kbV.cell 1
  have k2 := kbV.cell 2
  simp at k0 k1 k2
  clear kbV hf'
  have HB2 := Lib.hid ((HH.out.pile.box.keep TV.drew).tch ht2 hne)
  have HE2 := Lib.hid (ebV.drew.tch ht2 (show ¬ w.heap.size = mb by omega))
  have HT2 := Lib.hid ((Tch.any (S := fun k => k = mb) TV.drew).then ht2)
  have HM2 := Lib.hid hm2
  have HP2 := Lib.hid hp2
  clear ebV TV ht2 hm2 hp2
  go_still_tail 5, (by kernel_rfl)
  go_wp2_with (at_mapUpdate; refine wpList_update_run _ rfl (.tmp 26) (.tmp 27) (.const (.int .i64 1)) 57 rfl _ _ _ rfl rfl rfl w2 hrun ?_)
  clear hrun c1 k0 k1 k2
  have c0 := HB2.out.cell 0
  have e0 := HE2.out.cell 0
  have e1 := HE2.out.cell 1
  have e2 := HE2.out.cell 2
  have e3 := HE2.out.cell 3
  have e4 := HE2.out.cell 4
  have e5 := HE2.out.cell 5
  have e6 := HE2.out.cell 6
  have e7 := HE2.out.cell 7
  simp at c0 e0 e1 e2 e3 e4 e5 e6 e7
  have HP0 := Lib.hid (hPush_any 0 g mb _ l e w2.drew ⟨HB2.out.drew, (HT2.out.row HH.out.pile.row (HH.out.vm)).drew⟩ HH.out.heap hf (Nat.zero_le _))
  unfold Ent.val at HP0
  go_still_tail 6, (by kernel_rfl)
  clear c0 e0 e1 e2 e3 e4 e5 e6 e7
  go_wp2_with (go_at_call 22; (with_reducible refine HP0.out.mono ?_); rintro x w4 ⟨rfl, v', l', hpl, hh4, hP4, hT4, hv4⟩)
  go_ret
  have T4 : Tch (fun k => (k = g ∨ k = mb) ∨ (Value.slice A l.length c).ownBlock = some k) w w4 :=
    ((HT2.out.drew.mono (T := fun k => (k = g ∨ k = mb) ∨ (Value.slice A l.length c).ownBlock = some k) (fun i _ h => .inl (.inr h))).trans hT4 (fun i _ h => h.elim (fun h => .inl (.inl h)) .inr))
  refine ⟨rfl, v', l', hpl, ⟨hP4, hh4, ⟨ks, ?_, ?_⟩, ?_, ?_, ?_⟩, T4, ?_⟩
  · refine (HM2.out.tch (S := None_) (Tch.refl _ _).drew (fun h => h)).tch hT4 (fun h => ?_)
    rcases h with h | h
    · exact hne h.symm
    · exact HH.out.vm _ h rfl
  · exact HP2.out.trans (hpl.map Ent.key).symm
  · refine Keys1.perm ?_ hpl.symm
    unfold Keys1
    rw [List.map_append, List.nodup_append]
    refine ⟨HH.out.keys, by simp, fun a ha b hb => ?_⟩
    simp at hb
    rintro rfl
    exact HM.out (hb ▸ ha)
  · intro x hx
    rcases List.mem_append.1 (hpl.mem_iff.1 hx) with h | h
    · exact HH.out.ok x h
    · simp at h; subst h; exact he
  · have := hpl.length_eq
    simp at this
    omega
  · rcases hv4 with h | ⟨k, hk, hge4⟩
    · exact .inl h
    · have := HT2.out.size
      exact .inr ⟨k, hk, by simp at hge4; omega⟩
end Go.Proofs.Ytfdgkikgafojpaa
