/-
  No statement is proved here: what the queue's Pop comes to (walks of the code).
-/
import Derived.Test.YtfdgkikgafojpaaQm
namespace Go.Proofs.Ytfdgkikgafojpaa
open Go.RowKit Go.Maps

def Ent.zeroV : Value := .agg #[.int .i64 0, .int .i64 0, .int .i64 0, .int .i64 0, .int .i64 0, .int .i64 0, .int .i64 0, .int .i64 0]
theorem QPop_none (g mb : Nat) (v : Value) (w : World) (h : QAt w g mb v []) :
    Calls Try.prog 11 #[.pointer (some ⟨g, 0, none⟩)] w fun x w' => x = .returned (.tuple #[Ent.zeroV, .bool false]) ∧ Gr w w' := by
  have c0 := h.pile.box.cell 0
  have hr := h.pile.row
  have lg := h.glt
  obtain ⟨A, c, rfl, _, _⟩ := own_form hr
  simp at c0
  clear h hr
  unfold Ent.zeroV
  go_enter Try.func11, Try.ntmps11
  go_wp2_with fail
  exact bodyPost_ret (v := .tuple #[.agg #[.int .i64 0, .int .i64 0, .int .i64 0, .int .i64 0, .int .i64 0, .int .i64 0, .int .i64 0, .int .i64 0], .bool false]) (by simp [results, Try.results11, go_sem]) rfl ⟨rfl, (Gr.refl _).alloc _⟩

theorem perm_del {ks L1 L2 : List (Int × Int × Int)} {k : Int × Int × Int} {l l' : List Ent} {x : Ent} (h : ks.Perm (l.map Ent.key)) (hp : (x :: l').Perm l) (hk : x.key = k) (e : ks = L1 ++ k :: L2) : (L1 ++ L2).Perm (l'.map Ent.key) := by
  subst e hk
  have h1 : (x.key :: (L1 ++ L2)).Perm (x.key :: l'.map Ent.key) := (List.perm_middle.symm.trans h).trans (hp.map Ent.key).symm
  exact h1.cons_inv

set_option maxRecDepth 100000 in
set_option maxHeartbeats 2000000 in
theorem QPop_some (g mb : Nat) (v : Value) (l : List Ent) (w : World) (h : QAt w g mb v l) (hl : 0 < l.length) :
    Calls Try.prog 11 #[.pointer (some ⟨g, 0, none⟩)] w fun x w' => x = .returned (.tuple #[(el l 0).val, .bool true]) ∧ ∃ v' l', (el l 0 :: l').Perm l ∧ QAt w' g mb v' l' ∧
      Tch (fun k => (k = g ∨ k = mb) ∨ v.ownBlock = some k) w w' ∧ v'.ownBlock = v.ownBlock := by
  obtain ⟨n, hn⟩ : ∃ n, l.length = n + 1 := ⟨l.length - 1, by omega⟩
  obtain ⟨b, c, rfl⟩ := h.pile.form hl
  have hok := h.ok _ (el_mem hl)
  have hne := h.ne
  have hmlt := h.mlt
  have hglt := h.glt
  have hlen := h.len
  have c0 := h.pile.box.cell 0
  rw [hn] at h c0 ⊢
  simp at c0
  have HH := Lib.hid h
  have HN := Lib.hid hn
  have HOP := Lib.hid (fun W (ht : Tch None_ w W) => hPop_any 0 g mb b n c l W (h.pile.keep ht) h.heap hn (by omega))
  have HK := Lib.hid (fun W => keyOf_any (el l 0) W)
  clear h hn
  unfold Ent.val at *
  go_enter Try.func11, Try.ntmps11
  have hta := ta_any
  go_upto_region 4 with (go_at_call 23; (refine (HOP.out _ ((Tch.refl _ _).alloc _)).mono ?_); rintro x w1 ⟨rfl, l', hpl, hh1, hP1, hT1⟩)
  have hbl := (HH.out.pile.row.lt b rfl).2
  have hgb := HH.out.vg b rfl
  have hbm := HH.out.vm b rfl
  have T0 : Tch (fun k => k = g ∨ k = b) w w1 := (((Tch.refl (fun k => k = g ∨ k = b) w).alloc _).trans hT1 (fun i _ h => h))
  have rb0 := (Blk.new w 33 #[.int .i64 0, .int .i64 0, .int .i64 0, .int .i64 0, .int .i64 0, .int .i64 0, .int .i64 0, .int .i64 0]).tch hT1 (show ¬ (w.heap.size = g ∨ w.heap.size = b) by omega)
  have hs1 : w.heap.size + 1 ≤ w1.heap.size := by have := hT1.size; simpa using this
  have T1 : Tch (fun k => k = g ∨ k = b) w (w1.alloc (.cells #[.int .i64 (el l 0).fr, .int .i64 (el l 0).pe, .int .i64 (el l 0).sq, .int .i64 (el l 0).vb, .int .i64 (el l 0).a, .int .i64 (el l 0).b, .int .i64 (el l 0).c, .int .i64 (el l 0).ms] 33)) := T0.alloc _
  have rb := rb0.alloc (.cells #[.int .i64 (el l 0).fr, .int .i64 (el l 0).pe, .int .i64 (el l 0).sq, .int .i64 (el l 0).vb, .int .i64 (el l 0).a, .int .i64 (el l 0).b, .int .i64 (el l 0).c, .int .i64 (el l 0).ms] 33)
  have eb := Blk.new w1 33 #[.int .i64 (el l 0).fr, .int .i64 (el l 0).pe, .int .i64 (el l 0).sq, .int .i64 (el l 0).vb, .int .i64 (el l 0).a, .int .i64 (el l 0).b, .int .i64 (el l 0).c, .int .i64 (el l 0).ms]
  have bx := hP1.box.alloc (.cells #[.int .i64 (el l 0).fr, .int .i64 (el l 0).pe, .int .i64 (el l 0).sq, .int .i64 (el l 0).vb, .int .i64 (el l 0).a, .int .i64 (el l 0).b, .int .i64 (el l 0).c, .int .i64 (el l 0).ms] 33)
  have hP := hP1.keep ((Tch.refl None_ w1).alloc (.cells #[.int .i64 (el l 0).fr, .int .i64 (el l 0).pe, .int .i64 (el l 0).sq, .int .i64 (el l 0).vb, .int .i64 (el l 0).a, .int .i64 (el l 0).b, .int .i64 (el l 0).c, .int .i64 (el l 0).ms] 33))
  clear hT1 rb0 T0 hta c0 HOP
  generalize w1.alloc (.cells #[.int .i64 (el l 0).fr, .int .i64 (el l 0).pe, .int .i64 (el l 0).sq, .int .i64 (el l 0).vb, .int .i64 (el l 0).a, .int .i64 (el l 0).b, .int .i64 (el l 0).c, .int .i64 (el l 0).ms] 33) = W at *
  have HS : Hid (∀ w', Tch (fun k => k = mb) W w' → w'.cell? ⟨g, 1, none⟩ = some (.map (some mb)) ∧ w'.cell? ⟨w1.heap.size, 0, none⟩ = some (.int .i64 (el l 0).fr) ∧ w'.cell? ⟨w1.heap.size, 1, none⟩ = some (.int .i64 (el l 0).pe) ∧ w'.cell? ⟨w1.heap.size, 2, none⟩ = some (.int .i64 (el l 0).sq) ∧ w'.cell? ⟨w1.heap.size, 3, none⟩ = some (.int .i64 (el l 0).vb) ∧ w'.cell? ⟨w1.heap.size, 4, none⟩ = some (.int .i64 (el l 0).a) ∧ w'.cell? ⟨w1.heap.size, 5, none⟩ = some (.int .i64 (el l 0).b) ∧ w'.cell? ⟨w1.heap.size, 6, none⟩ = some (.int .i64 (el l 0).c) ∧ w'.cell? ⟨w1.heap.size, 7, none⟩ = some (.int .i64 (el l 0).ms)) := by
    intro w' h
    have k1 := bx.tch h hne
    have k2 := eb.tch h (show ¬ (w1.heap.size = mb) by omega)
    exact ⟨by simpa using k1.cell 1, by simpa using k2.cell 0, by simpa using k2.cell 1, by simpa using k2.cell 2, by simpa using k2.cell 3, by simpa using k2.cell 4, by simpa using k2.cell 5, by simpa using k2.cell 6, by simpa using k2.cell 7⟩
  have HDEL : Hid (∀ W', Tch None_ W W' → ∃ w2, (Builtin.delete_ #[57, 62] 0 #[.map (some mb), keyOfK (el l 0).key]).run Try.prog W' = .ok (.tuple #[]) w2 ∧ (∃ ks : List (Int × Int × Int), MapAt Try.prog 62 w2 mb (ks.map kent) ∧ ks.Perm (l'.map Ent.key)) ∧ Tch (fun k => k = mb) W' w2) := by
    intro W' ht
    obtain ⟨ks, hm, hp⟩ := HH.out.map
    obtain ⟨kl, hkl⟩ := keyQ (el l 0).key hok
    have hmem : (el l 0).key ∈ ks := hp.mem_iff.2 (List.mem_map.2 ⟨_, el_mem hl, rfl⟩)
    obtain ⟨L1, L2, hks⟩ := List.append_of_mem hmem
    have hm1 := (hm.tch T1 (fun h => h.elim (fun h => hne h.symm) (fun h => hbm h.symm))).keep ht
    obtain ⟨w2, h1, h2, h3, _⟩ := hm1.del_hit lawKey Try.underlying57 hkl 0 (L1 := L1.map kent) (L2 := L2.map kent) (v := .int .i64 1) (by rw [hks]; simp [kent])
    exact ⟨w2, h1, ⟨L1 ++ L2, by simpa using h2, perm_del hp hpl rfl hks⟩, h3⟩
  simp only [keyOfK, Ent.key] at HDEL
  have HP := Lib.hid hP
  have HT1 := Lib.hid T1
  have HR := Lib.hid rb
  have HPL := Lib.hid hpl
  have HOK := Lib.hid hok
  have HEB := Lib.hid eb
  clear hP hP1 rb bx eb T1 hpl hok
  go_region_held3 (fun w' => w'.cell? ⟨g, 1, none⟩ = some (.map (some mb)) ∧ w'.cell? ⟨w1.heap.size, 0, none⟩ = some (.int .i64 (el l 0).fr) ∧ w'.cell? ⟨w1.heap.size, 1, none⟩ = some (.int .i64 (el l 0).pe) ∧ w'.cell? ⟨w1.heap.size, 2, none⟩ = some (.int .i64 (el l 0).sq) ∧ w'.cell? ⟨w1.heap.size, 3, none⟩ = some (.int .i64 (el l 0).vb) ∧ w'.cell? ⟨w1.heap.size, 4, none⟩ = some (.int .i64 (el l 0).a) ∧ w'.cell? ⟨w1.heap.size, 5, none⟩ = some (.int .i64 (el l 0).b) ∧ w'.cell? ⟨w1.heap.size, 6, none⟩ = some (.int .i64 (el l 0).c) ∧ w'.cell? ⟨w1.heap.size, 7, none⟩ = some (.int .i64 (el l 0).ms))
    ((refine HS.out _ ?_; first | assumption | exact (Tch.refl _ _).drew))
    (first
      | (go_at_call 21
         refine (HK.out _).mono ?_
         rintro e w2 ⟨rfl, hg2, hz2⟩
         have ht2 : Tch None_ W w2 := (Tch.refl _ _).drew.then hg2.tch
         obtain ⟨w3, hdel, hmap3, ht3⟩ := HDEL.out w2 ht2
         have hq2 : Tch (fun k => k = mb) W w2 := ht2.any
         have hq3 : Tch (fun k => k = mb) W w3 := hq2.then ht3))
  obtain ⟨_, e0, e1, e2, e3, e4, e5, e6, e7⟩ := HS.out w3 hq3
  have hr3 := HR.out.tch hq3 (show ¬ (w.heap.size = mb) by omega)
  have r0 := hr3.cell 0
  have z0 := hr3.frozen 0
  have r1 := hr3.cell 1
  have z1 := hr3.frozen 1
  have r2 := hr3.cell 2
  have z2 := hr3.frozen 2
  have r3 := hr3.cell 3
  have z3 := hr3.frozen 3
  have r4 := hr3.cell 4
  have z4 := hr3.frozen 4
  have r5 := hr3.cell 5
  have z5 := hr3.frozen 5
  have r6 := hr3.cell 6
  have z6 := hr3.frozen 6
  have r7 := hr3.cell 7
  have z7 := hr3.frozen 7
  have lr := hr3.lt
  simp at r0 r1 r2 r3 r4 r5 r6 r7
  have T4 := (((((((((Tch.refl (fun k => k = w.heap.size) w3).setCell (p := ⟨w.heap.size, 0, none⟩) (.inl rfl) (.int .i64 (el l 0).fr)).setCell (p := ⟨w.heap.size, 1, none⟩) (.inl rfl) (.int .i64 (el l 0).pe)).setCell (p := ⟨w.heap.size, 2, none⟩) (.inl rfl) (.int .i64 (el l 0).sq)).setCell (p := ⟨w.heap.size, 3, none⟩) (.inl rfl) (.int .i64 (el l 0).vb)).setCell (p := ⟨w.heap.size, 4, none⟩) (.inl rfl) (.int .i64 (el l 0).a)).setCell (p := ⟨w.heap.size, 5, none⟩) (.inl rfl) (.int .i64 (el l 0).b)).setCell (p := ⟨w.heap.size, 6, none⟩) (.inl rfl) (.int .i64 (el l 0).c)).setCell (p := ⟨w.heap.size, 7, none⟩) (.inl rfl) (.int .i64 (el l 0).ms))
  have HM3 := Lib.hid hmap3
  have HQ3 := Lib.hid hq3
  have HT4 := Lib.hid T4
  have hbl' := hbl
  clear hq2 hq3 ht2 ht3 hg2 hz2 hdel hr3 T4 HS HDEL HK hmap3
  go_wp2_with fail
  refine bodyPost_ret (v := .tuple #[.agg #[.int .i64 (el l 0).fr, .int .i64 (el l 0).pe, .int .i64 (el l 0).sq, .int .i64 (el l 0).vb, .int .i64 (el l 0).a, .int .i64 (el l 0).b, .int .i64 (el l 0).c, .int .i64 (el l 0).ms], .bool true]) (by simp [results, Try.results11, go_sem, r0, r1, r2, r3, r4, r5, r6, r7]) rfl ⟨rfl, .slice (some ⟨b, 0, none⟩) n c, l', HPL.out, ⟨?_, hh1, ?_, ?_, ?_, ?_⟩, ?_, rfl⟩
  · exact (HP.out.tch HQ3.out hne (fun k hk e => hbm (by simpa [Value.ownBlock, e] using hk))).tch HT4.out (by omega) (fun k hk e => by simp [Value.ownBlock] at hk; omega)
  · obtain ⟨ks, hm, hp⟩ := HM3.out
    exact ⟨ks, hm.tch HT4.out (by omega), hp⟩
  · have := Keys1.perm HH.out.keys HPL.out.symm
    unfold Keys1 at this ⊢
    rw [List.map_cons, List.nodup_cons] at this
    exact this.2
  · intro x hx
    exact HH.out.ok x (HPL.out.mem_iff.1 (List.mem_cons_of_mem _ hx))
  · have := HPL.out.length_eq
    simp at this
    omega
  · refine ((HT1.out.mono (T := fun k => (k = g ∨ k = mb) ∨ (Value.slice (some ⟨b, 0, none⟩) (n + 1) c).ownBlock = some k) (fun i _ h => ?_)).trans HQ3.out (fun i _ h => .inl (.inr h))).trans HT4.out (fun i hi h => absurd hi (by omega))
    rcases h with h | h
    · exact .inl (.inl h)
    · exact .inr (by rw [h]; rfl)
end Go.Proofs.Ytfdgkikgafojpaa
