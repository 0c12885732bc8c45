/-
  No statement is proved here: the law's function awake returns true (a walk of the code).
-/
import Derived.Test.YtfdgkikgafojpaaQs
namespace Go.Proofs.Ytfdgkikgafojpaa
open Go.RowKit Go.Maps

def key3 (fr pe sq : Int) : Ent := ⟨fr, pe, sq, 0, 0, 0, 0, 0⟩
theorem sz_none {w w' : World} (h : Tch None_ w w') : w.heap.size ≤ w'.heap.size := h.size

/-- A queue that was made behind world w0. -/
structure QF (w0 w : World) (g mb : Nat) (v : Value) (s : List Ent) : Prop where
  q : QS w g mb v s
  hg : w0.heap.size ≤ g
  hm : w0.heap.size ≤ mb
  hv : ∀ k, v.ownBlock = some k → w0.heap.size ≤ k
  t : Tch None_ w0 w
theorem QF.keep {w0 w w' : World} {g mb : Nat} {v : Value} {s : List Ent} (h : QF w0 w g mb v s) (ht : Tch None_ w w') : QF w0 w' g mb v s := ⟨h.q.keep ht, h.hg, h.hm, h.hv, h.t.quiet ht⟩
theorem QF.turn {w0 w w' : World} {g mb : Nat} {v v' : Value} {s s' : List Ent} (h : QF w0 w g mb v s) (hq : QS w' g mb v' s') (ht : Tch (QTch g mb v) w w') (hv : v'.ownBlock = v.ownBlock ∨ ∃ k, v'.ownBlock = some k ∧ w.heap.size ≤ k) : QF w0 w' g mb v' s' := by
  refine ⟨hq, h.hg, h.hm, fun k hk => ?_, h.t.trans ht (fun i hi hq => ?_)⟩
  · rcases hv with hv | ⟨j, hj, hl⟩
    · exact h.hv k (hv ▸ hk)
    · rw [hj] at hk
      injection hk with hk
      have := h.t.size
      omega
  · rcases hq with (hq | hq) | hq
    · have := h.hg; omega
    · have := h.hm; omega
    · have := h.hv i hq; omega
theorem QfNew (w : World) : Calls Try.prog 8 #[] w fun x w' => ∃ g mb, x = .returned (.pointer (some ⟨g, 0, none⟩)) ∧ QF w w' g mb (.slice none 0 0) [] :=
  (QsNew w).mono fun _ _ ⟨g, mb, h1, h2, h3, h4, h5⟩ => ⟨g, mb, h1, ⟨h2, h3, h4, by simp [Value.ownBlock], h5⟩⟩
theorem QfPush_ok (w0 : World) (g mb : Nat) (v : Value) (s : List Ent) (e : Ent) (w : World) (h : QF w0 w g mb v s) (he : okK e.key) (hmem : e.key ∉ s.map Ent.key) (hf : s.length < 4096) :
    Calls Try.prog 9 #[.pointer (some ⟨g, 0, none⟩), e.val] w fun x w' => ∃ v', x = .returned (.int .i64 0) ∧ QF w0 w' g mb v' (ins e s) ∧ Tch (QTch g mb v) w w' ∧ (v'.ownBlock = v.ownBlock ∨ ∃ k, v'.ownBlock = some k ∧ w.heap.size ≤ k) :=
  (QsPush_ok g mb v s e w h.q he hmem hf).mono fun _ _ ⟨v', h1, h2, h3, h4⟩ => ⟨v', h1, h.turn h2 h3 h4, h3, h4⟩

theorem split_uniq {p : Ent → Prop} : ∀ {a b c d : List Ent}, a ++ b = c ++ d → (∀ x ∈ a, p x) → (∀ x ∈ b, ¬ p x) → (∀ x ∈ c, p x) → (∀ x ∈ d, ¬ p x) → a = c ∧ b = d := by
  intro a
  induction a with
  | nil =>
    intro b c d h _ hb hc _
    cases c with
    | nil => exact ⟨rfl, by simpa using h⟩
    | cons y c =>
      simp only [List.nil_append, List.cons_append] at h
      exact absurd (hc y (by simp)) (hb y (by rw [h]; simp))
  | cons x a ih =>
    intro b c d h ha hb hc hd
    cases c with
    | nil =>
      simp only [List.nil_append, List.cons_append] at h
      exact absurd (ha x (by simp)) (hd x (by rw [← h]; simp))
    | cons y c =>
      simp only [List.cons_append, List.cons.injEq] at h
      obtain ⟨h1, h2⟩ := ih h.2 (fun z hz => ha z (List.mem_cons_of_mem _ hz)) hb (fun z hz => hc z (List.mem_cons_of_mem _ hz)) hd
      exact ⟨by rw [h.1, h1], h2⟩

set_option maxRecDepth 100000 in
set_option maxHeartbeats 4000000 in
theorem awake_any (w : World) : Calls Try.prog 7 #[] w fun e w' => e = .returned (.bool true) ∧ Tch None_ w w' := by
  go_enter Try.func7, Try.ntmps7
  go_wp2_with fail
  refine (QfNew w).mono ?_
  rintro e w1 ⟨g, mb, rfl, h1⟩
  go_wp2_with fail
  refine (entry_any 3 0 1 w1).mono ?_
  rintro e w2 ⟨rfl, g2⟩
  go_wp2_with fail
  refine (QfPush_ok w g mb _ [] (key3 3 0 1) w2 (h1.keep g2.tch) (by simp [okK, key3, Ent.key]) (by simp) (by simp)).mono ?_
  rintro e w3 ⟨v3, rfl, h3, _, _⟩
  clear h1 g2
  go_wp2_with fail
  refine (entry_any 2 1 4 w3).mono ?_
  rintro e w4 ⟨rfl, g4⟩
  go_wp2_with fail
  refine (QfPush_ok w g mb _ _ (key3 2 1 4) w4 (h3.keep g4.tch) (by simp [okK, key3, Ent.key]) (by decide) (by decide)).mono ?_
  rintro e w5 ⟨v5, rfl, h5, _, _⟩
  clear h3 g4
  go_wp2_with fail
  refine (entry_any 2 0 9 w5).mono ?_
  rintro e w6 ⟨rfl, g6⟩
  go_wp2_with fail
  refine (QfPush_ok w g mb _ _ (key3 2 0 9) w6 (h5.keep g6.tch) (by simp [okK, key3, Ent.key]) (by decide) (by decide)).mono ?_
  rintro e w7 ⟨v7, rfl, h7, _, _⟩
  have h7 : QF w w7 g mb v7 [key3 2 0 9, key3 2 1 4, key3 3 0 1] := h7
  clear h5 g6
  go_wp2_with fail
  refine (entry_any 2 0 9 w7).mono ?_
  rintro e w8 ⟨rfl, g8⟩
  go_wp2_with fail
  refine (QsPush_twice g mb v7 _ (key3 2 0 9) w8 (h7.keep g8.tch).q (by simp [okK, key3, Ent.key]) (by decide)).mono ?_
  rintro e w9 ⟨rfl, t9⟩
  have h9 := (h7.keep g8.tch).keep t9
  clear h7 g8 t9
  go_wp2_with fail
  refine (QsPeek_some g mb v7 _ _ w9 h9.q).mono ?_
  rintro e w10 ⟨rfl, g10⟩
  have h10 := h9.keep g10.tch
  clear h9 g10
  simp only [Ent.val, key3]
  go_wp2_with fail
  have T1 : Tch None_ w10 (w10.alloc (.cells #[.int .i64 2, .int .i64 0, .int .i64 9, .int .i64 0, .int .i64 0, .int .i64 0, .int .i64 0, .int .i64 0] 33)) := (Tch.refl _ _).alloc _
  have b6 := Blk.new w10 33 #[.int .i64 2, .int .i64 0, .int .i64 9, .int .i64 0, .int .i64 0, .int .i64 0, .int .i64 0, .int .i64 0]
  have h10' := h10.keep T1
  have hgl := h10.q.glt
  have hml := h10.q.mlt
  have hvl := h10.q.vlt
  refine (QsBelow g mb v7 _ 2 _ h10'.q).mono ?_
  rintro e w11 ⟨vo, v8, low, s', rfl, hsp, hlo, hhi, hq11, hrow, ht11, hv8⟩
  obtain ⟨rfl, rfl⟩ := split_uniq (p := fun x => x.fr ≤ 2) (c := [key3 2 0 9, key3 2 1 4]) (d := [key3 3 0 1]) hsp.symm hlo hhi (by simp [key3]) (by simp [key3])
  have h11 := h10'.turn hq11 ht11 (.inl hv8)
  have b6' := b6.tch ht11 (fun h => by
    rcases h with (h | h) | h
    · omega
    · omega
    · have := hvl _ h; omega)
  have hvl8 : ∀ k, v8.ownBlock = some k → k < w10.heap.size := fun k hk => hvl k (hv8 ▸ hk)
  obtain ⟨Av, cv, rfl, _, _⟩ := own_form hrow
  have hrge : ∀ k, (Value.slice Av [key3 2 0 9, key3 2 1 4].length cv).ownBlock = some k → w10.heap.size < k := fun k hk => by have := (hrow.lt k hk).1; simp at this; omega
  clear hsp hlo hhi h10 h10' b6 T1 ht11 hq11 hv8
  go_wp2_with fail
  refine (QsPop_some g mb v8 _ _ w11 h11.q).mono ?_
  rintro e w12 ⟨v9, rfl, hq12, ht12, hv9⟩
  have h12 := h11.turn hq12 ht12 (.inl hv9)
  have hno : ∀ k, w10.heap.size ≤ k → ¬ QTch g mb v8 k := fun k hk h => by
    rcases h with (h | h) | h
    · omega
    · omega
    · have := hvl8 _ h; omega
  have b6 := b6'.tch ht12 (hno _ (Nat.le_refl _))
  have hrow12 := ht12.row hrow (fun k hk => hno k (Nat.le_of_lt (hrge k hk)))
  clear h11 b6' hrow hq12 ht12 hv9 hno
  simp only [Ent.val, key3]
  go_wp2_with fail
  have T1 : Tch None_ w12 (w12.alloc (.cells #[.int .i64 3, .int .i64 0, .int .i64 1, .int .i64 0, .int .i64 0, .int .i64 0, .int .i64 0, .int .i64 0] 33)) := (Tch.refl _ _).alloc _
  have b9 := Blk.new w12 33 #[.int .i64 3, .int .i64 0, .int .i64 1, .int .i64 0, .int .i64 0, .int .i64 0, .int .i64 0, .int .i64 0]
  refine (QsPop_none g mb v9 _ (h12.q.keep T1)).mono ?_
  rintro e w13 ⟨rfl, g13⟩
  have TT := T1.then g13.tch
  have h13 := h12.keep TT
  have b6' := b6.keep TT
  have b9' := b9.keep g13.tch
  have hrow13 := TT.row hrow12 (fun _ _ h => h)
  clear h12 b6 b9 hrow12 g13 TT T1
  simp only [Ent.zeroV]
  go_wp2_with fail
  have T1 : Tch None_ w13 (w13.alloc (.cells #[.int .i64 0, .int .i64 0, .int .i64 0, .int .i64 0, .int .i64 0, .int .i64 0, .int .i64 0, .int .i64 0] 33)) := (Tch.refl _ _).alloc _
  refine (entry_any 2 0 9 _).mono ?_
  rintro e w14 ⟨rfl, g14⟩
  go_wp2_with fail
  refine (entry_any 2 1 4 _).mono ?_
  rintro e w15 ⟨rfl, g15⟩
  have TT := (T1.then g14.tch).then g15.tch
  have h15 := h13.keep TT
  have b6 := b6'.keep TT
  have b9 := b9'.keep TT
  have hrow15 := TT.row hrow13 (fun _ _ h => h)
  clear h13 b6' b9' hrow13 g14 g15 TT T1
  go_wp2_with fail
  have TT : Tch None_ w15 (w15.alloc (.cells #[.int .i64 2, .int .i64 0, .int .i64 9, .int .i64 0, .int .i64 0, .int .i64 0, .int .i64 0, .int .i64 0, .int .i64 2, .int .i64 1, .int .i64 4, .int .i64 0, .int .i64 0, .int .i64 0, .int .i64 0, .int .i64 0] 33)) := (Tch.refl _ _).alloc _
  have b14 := Blk.new w15 33 #[.int .i64 2, .int .i64 0, .int .i64 9, .int .i64 0, .int .i64 0, .int .i64 0, .int .i64 0, .int .i64 0, .int .i64 2, .int .i64 1, .int .i64 4, .int .i64 0, .int .i64 0, .int .i64 0, .int .i64 0, .int .i64 0]
  have h16 := h15.keep TT
  have b6' := b6.keep TT
  have b9' := b9.keep TT
  have hr1 := (Reads.of_own hrow15).tch TT (Nat.le_refl _) (fun _ _ h => h)
  have hr2 : Reads (w15.alloc (.cells #[.int .i64 2, .int .i64 0, .int .i64 9, .int .i64 0, .int .i64 0, .int .i64 0, .int .i64 0, .int .i64 0, .int .i64 2, .int .i64 1, .int .i64 4, .int .i64 0, .int .i64 0, .int .i64 0, .int .i64 0, .int .i64 0] 33)) (w15.alloc (.cells #[.int .i64 2, .int .i64 0, .int .i64 9, .int .i64 0, .int .i64 0, .int .i64 0, .int .i64 0, .int .i64 0, .int .i64 2, .int .i64 1, .int .i64 4, .int .i64 0, .int .i64 0, .int .i64 0, .int .i64 0, .int .i64 0] 33)).heap.size 8 (some ⟨w15.heap.size, 0, none⟩) 2 ([key3 2 0 9, key3 2 1 4].flatMap Ent.cells) :=
    ⟨rfl, fun _ => ⟨_, rfl, by simp, fun j u hu => by rw [add_plain, b14.cell]; simpa [key3, Ent.cells] using hu⟩⟩
  have hlt15 := TT.size
  have HSAME := Lib.hid (fun W (ht : Tch None_ (w15.alloc (.cells #[.int .i64 2, .int .i64 0, .int .i64 9, .int .i64 0, .int .i64 0, .int .i64 0, .int .i64 0, .int .i64 0, .int .i64 2, .int .i64 1, .int .i64 4, .int .i64 0, .int .i64 0, .int .i64 0, .int .i64 0, .int .i64 0] 33)) W) => Same_yes 2 cv 2 _ Av _ _ W ht.size rfl ((hr1.more hlt15).tch ht (Nat.le_refl _) (fun _ _ h => h)) (hr2.tch ht (Nat.le_refl _) (fun _ _ h => h)) (by omega))
  have HE := Lib.hid (entry_any 3 0 1)
  have HQ := Lib.hid h16
  clear h15 b6 b9 hrow15 TT hr1 hr2 hlt15 h16
  generalize w15.alloc (.cells #[.int .i64 2, .int .i64 0, .int .i64 9, .int .i64 0, .int .i64 0, .int .i64 0, .int .i64 0, .int .i64 0, .int .i64 2, .int .i64 1, .int .i64 4, .int .i64 0, .int .i64 0, .int .i64 0, .int .i64 0, .int .i64 0] 33) = W at *
  have HS : Hid (∀ w', Tch None_ W w' → w'.cell? ⟨w10.heap.size, 0, none⟩ = some (.int .i64 2) ∧ w'.cell? ⟨w10.heap.size, 1, none⟩ = some (.int .i64 0) ∧ w'.cell? ⟨w10.heap.size, 2, none⟩ = some (.int .i64 9) ∧ w'.cell? ⟨w10.heap.size, 3, none⟩ = some (.int .i64 0) ∧ w'.cell? ⟨w10.heap.size, 4, none⟩ = some (.int .i64 0) ∧ w'.cell? ⟨w10.heap.size, 5, none⟩ = some (.int .i64 0) ∧ w'.cell? ⟨w10.heap.size, 6, none⟩ = some (.int .i64 0) ∧ w'.cell? ⟨w10.heap.size, 7, none⟩ = some (.int .i64 0) ∧ w'.cell? ⟨w12.heap.size, 0, none⟩ = some (.int .i64 3) ∧ w'.cell? ⟨w12.heap.size, 1, none⟩ = some (.int .i64 0) ∧ w'.cell? ⟨w12.heap.size, 2, none⟩ = some (.int .i64 1) ∧ w'.cell? ⟨w12.heap.size, 3, none⟩ = some (.int .i64 0) ∧ w'.cell? ⟨w12.heap.size, 4, none⟩ = some (.int .i64 0) ∧ w'.cell? ⟨w12.heap.size, 5, none⟩ = some (.int .i64 0) ∧ w'.cell? ⟨w12.heap.size, 6, none⟩ = some (.int .i64 0) ∧ w'.cell? ⟨w12.heap.size, 7, none⟩ = some (.int .i64 0) ∧ w'.cell? ⟨w15.heap.size, 0, none⟩ = some (.int .i64 2) ∧ w'.cell? ⟨w15.heap.size, 1, none⟩ = some (.int .i64 0) ∧ w'.cell? ⟨w15.heap.size, 2, none⟩ = some (.int .i64 9) ∧ w'.cell? ⟨w15.heap.size, 3, none⟩ = some (.int .i64 0) ∧ w'.cell? ⟨w15.heap.size, 4, none⟩ = some (.int .i64 0) ∧ w'.cell? ⟨w15.heap.size, 5, none⟩ = some (.int .i64 0) ∧ w'.cell? ⟨w15.heap.size, 6, none⟩ = some (.int .i64 0) ∧ w'.cell? ⟨w15.heap.size, 7, none⟩ = some (.int .i64 0)) := by
    intro w' h
    have k1 := b6'.keep h
    have k2 := b9'.keep h
    have k3 := b14.keep h
    exact ⟨by simpa using k1.cell 0, by simpa using k1.cell 1, by simpa using k1.cell 2, by simpa using k1.cell 3, by simpa using k1.cell 4, by simpa using k1.cell 5, by simpa using k1.cell 6, by simpa using k1.cell 7, by simpa using k2.cell 0, by simpa using k2.cell 1, by simpa using k2.cell 2, by simpa using k2.cell 3, by simpa using k2.cell 4, by simpa using k2.cell 5, by simpa using k2.cell 6, by simpa using k2.cell 7, by simpa using k3.cell 0, by simpa using k3.cell 1, by simpa using k3.cell 2, by simpa using k3.cell 3, by simpa using k3.cell 4, by simpa using k3.cell 5, by simpa using k3.cell 6, by simpa using k3.cell 7⟩
  clear b6' b9' b14
  go_region_held3 (fun w' => w'.cell? ⟨w10.heap.size, 0, none⟩ = some (.int .i64 2) ∧ w'.cell? ⟨w10.heap.size, 1, none⟩ = some (.int .i64 0) ∧ w'.cell? ⟨w10.heap.size, 2, none⟩ = some (.int .i64 9) ∧ w'.cell? ⟨w10.heap.size, 3, none⟩ = some (.int .i64 0) ∧ w'.cell? ⟨w10.heap.size, 4, none⟩ = some (.int .i64 0) ∧ w'.cell? ⟨w10.heap.size, 5, none⟩ = some (.int .i64 0) ∧ w'.cell? ⟨w10.heap.size, 6, none⟩ = some (.int .i64 0) ∧ w'.cell? ⟨w10.heap.size, 7, none⟩ = some (.int .i64 0) ∧ w'.cell? ⟨w12.heap.size, 0, none⟩ = some (.int .i64 3) ∧ w'.cell? ⟨w12.heap.size, 1, none⟩ = some (.int .i64 0) ∧ w'.cell? ⟨w12.heap.size, 2, none⟩ = some (.int .i64 1) ∧ w'.cell? ⟨w12.heap.size, 3, none⟩ = some (.int .i64 0) ∧ w'.cell? ⟨w12.heap.size, 4, none⟩ = some (.int .i64 0) ∧ w'.cell? ⟨w12.heap.size, 5, none⟩ = some (.int .i64 0) ∧ w'.cell? ⟨w12.heap.size, 6, none⟩ = some (.int .i64 0) ∧ w'.cell? ⟨w12.heap.size, 7, none⟩ = some (.int .i64 0) ∧ w'.cell? ⟨w15.heap.size, 0, none⟩ = some (.int .i64 2) ∧ w'.cell? ⟨w15.heap.size, 1, none⟩ = some (.int .i64 0) ∧ w'.cell? ⟨w15.heap.size, 2, none⟩ = some (.int .i64 9) ∧ w'.cell? ⟨w15.heap.size, 3, none⟩ = some (.int .i64 0) ∧ w'.cell? ⟨w15.heap.size, 4, none⟩ = some (.int .i64 0) ∧ w'.cell? ⟨w15.heap.size, 5, none⟩ = some (.int .i64 0) ∧ w'.cell? ⟨w15.heap.size, 6, none⟩ = some (.int .i64 0) ∧ w'.cell? ⟨w15.heap.size, 7, none⟩ = some (.int .i64 0))
    ((refine HS.out _ ?_; first | assumption | exact (Tch.refl _ _).drew))
    (first
      | (go_at_call 20
         refine (HSAME.out _ (Tch.refl _ _).drew).mono ?_
         rintro e w16 ⟨rfl, g16⟩
         have hq16 : Tch None_ W w16 := (Tch.refl _ _).drew.then g16.tch)
      | (go_at_call 14
         refine (HE.out _).mono ?_
         rintro e w17 ⟨rfl, g17⟩
         have hq17 : Tch None_ W w17 := hq16.then g17.tch))
  go_wp2_with fail
  go_ret
  exact ⟨rfl, (HQ.out.keep hq17).t⟩
end Go.Proofs.Ytfdgkikgafojpaa
