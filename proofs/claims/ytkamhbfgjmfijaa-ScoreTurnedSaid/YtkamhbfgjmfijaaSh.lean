/-
  No statement is proved here: the program's Hit (a walk of the code).
-/
import Derived.Test.YtkamhbfgjmfijaaSg
import Derived.Deep.RegionLaw
namespace Go.Proofs.Ytkamhbfgjmfijaa
open Go.RowKit

/-- Hit's four variables: the two scores, and the two results. -/
structure Four (w W : World) (s t : Sc) : Prop where
  t0 : Tch None_ w W
  b0 : Blk W w.heap.size 23 s.arr
  b1 : Blk W (w.heap.size + 1) 23 t.arr
  b2 : Blk W (w.heap.size + 1 + 1) 23 Sc.zero.arr
  b3 : Blk W (w.heap.size + 1 + 1 + 1) 23 Sc.zero.arr
theorem Four.keep {w W W' : World} {s t : Sc} (h : Four w W s t) (ht : Tch None_ W W') : Four w W' s t := ⟨h.t0.quiet ht, h.b0.keep ht, h.b1.keep ht, h.b2.keep ht, h.b3.keep ht⟩
theorem Four.start (w : World) (s t : Sc) : Four w ((((w.alloc (.cells s.arr 23)).alloc (.cells t.arr 23)).alloc (.cells Sc.zero.arr 23)).alloc (.cells Sc.zero.arr 23)) s t := by
  have B1 := ((Blk.new (w.alloc (.cells s.arr 23)) 23 t.arr).alloc (.cells Sc.zero.arr 23)).alloc (.cells Sc.zero.arr 23)
  have B2 := (Blk.new ((w.alloc (.cells s.arr 23)).alloc (.cells t.arr 23)) 23 Sc.zero.arr).alloc (.cells Sc.zero.arr 23)
  have B3 := Blk.new (((w.alloc (.cells s.arr 23)).alloc (.cells t.arr 23)).alloc (.cells Sc.zero.arr 23)) 23 Sc.zero.arr
  simp only [World.size_alloc] at B1 B2 B3
  exact ⟨((((Tch.refl None_ w).alloc _).alloc _).alloc _).alloc _, (((Blk.new w 23 s.arr).alloc (.cells t.arr 23)).alloc (.cells Sc.zero.arr 23)).alloc (.cells Sc.zero.arr 23), B1, B2, B3⟩
theorem Four.fin {w W W' : World} {s t : Sc} (h : Four w W s t) (x y : Sc) (e : W' = put4 (put4 W (w.heap.size + 1 + 1) x) (w.heap.size + 1 + 1 + 1) y) :
    Blk W' (w.heap.size + 1 + 1) 23 x.arr ∧ Blk W' (w.heap.size + 1 + 1 + 1) 23 y.arr ∧ Tch None_ w W' := by
  subst e
  exact ⟨put4_far (put4_blk h.b2 x) (by omega) y, put4_blk (put4_far h.b3 (by omega) x) y, put4_tch (put4_tch h.t0 (by omega) x) (by omega) y⟩
theorem Four.fin' {w W : World} {s t : Sc} (h : Four w W s t) (x y : Sc) (W' : World) (e : W' = (put4 (put4 W (w.heap.size + 1 + 1) x) (w.heap.size + 1 + 1 + 1) y).drew ∨ W' = (put4 (put4 W (w.heap.size + 1 + 1 + 1) y) (w.heap.size + 1 + 1) x).drew) :
    Blk W' (w.heap.size + 1 + 1) 23 x.arr ∧ Blk W' (w.heap.size + 1 + 1 + 1) 23 y.arr ∧ Tch None_ w W' := by
  rcases e with rfl | rfl
  · obtain ⟨h1, h2, h3⟩ := h.fin x y rfl
    exact ⟨h1.drew, h2.drew, h3.drew⟩
  · exact ⟨(put4_blk (put4_far h.b2 (by omega) y) x).drew, (put4_far (put4_blk h.b3 y) (by omega) x).drew, (put4_tch (put4_tch h.t0 (by omega) y) (by omega) x).drew⟩
/-- One number of the first score is written. -/
theorem Four.set0 {w W : World} {s t : Sc} (h : Four w W s t) (i : Nat) (u : Value) (s' : Sc) (e : s.arr.setIfInBounds i u = s'.arr) : Four w (W.setCell ⟨w.heap.size, i, none⟩ u) s' t :=
  ⟨h.t0.setCell (p := ⟨w.heap.size, i, none⟩) (.inr (Nat.le_refl _)) u, e ▸ h.b0.set_ i u, h.b1.far (p := ⟨w.heap.size, i, none⟩) (by show w.heap.size + 1 ≠ w.heap.size; omega) u, h.b2.far (p := ⟨w.heap.size, i, none⟩) (by show w.heap.size + 1 + 1 ≠ w.heap.size; omega) u, h.b3.far (p := ⟨w.heap.size, i, none⟩) (by show w.heap.size + 1 + 1 + 1 ≠ w.heap.size; omega) u⟩
theorem Four.set1 {w W : World} {s t : Sc} (h : Four w W s t) (i : Nat) (u : Value) (t' : Sc) (e : t.arr.setIfInBounds i u = t'.arr) : Four w (W.setCell ⟨w.heap.size + 1, i, none⟩ u) s t' :=
  ⟨h.t0.setCell (p := ⟨w.heap.size + 1, i, none⟩) (.inr (by show w.heap.size ≤ w.heap.size + 1; omega)) u, h.b0.far (p := ⟨w.heap.size + 1, i, none⟩) (by show w.heap.size ≠ w.heap.size + 1; omega) u, e ▸ h.b1.set_ i u, h.b2.far (p := ⟨w.heap.size + 1, i, none⟩) (by show w.heap.size + 1 + 1 ≠ w.heap.size + 1; omega) u, h.b3.far (p := ⟨w.heap.size + 1, i, none⟩) (by show w.heap.size + 1 + 1 + 1 ≠ w.heap.size + 1; omega) u⟩

set_option maxRecDepth 100000 in
set_option maxHeartbeats 4000000 in
theorem hit_any (s t : Sc) (n : Int) (out : Bool) (w : World) : Calls Try.prog 8 #[s.val, t.val, .int .i64 n, .bool out] w fun e w' => e = .returned (.tuple #[(hitP s t n out).1.val, (hitP s t n out).2.1.val, .int .i64 (hitP s t n out).2.2]) ∧ Tch None_ w w' := by
  have HC := Lib.hid (Check_any s)
  have HD := Lib.hid (Check_any t)
  have hF := Four.start w s t
  simp only [Sc.arr, Sc.zero] at hF
  by_cases hs : s.fine
  · rw [chk_fine hs] at HC
    by_cases ht : t.fine
    · rw [chk_fine ht] at HD
      by_cases hn : n < 1 ∨ 3 < n
      · have hg : hitP s t n out = (Sc.zero, Sc.zero, 1) := by unfold hitP; rw [if_pos ⟨hs, ht⟩, if_pos hn]
        rw [hg]
        clear hg hs ht
        unfold Sc.val at *
        rcases (show n < 1 ∨ (¬ n < 1 ∧ 3 < n) by omega) with h2 | ⟨h3, h2⟩
        all_goals
          go_enter Try.func8, Try.ntmps8
          go_upto_region 1 with fail
          generalize (((w.alloc (.cells #[.int .i64 s.p, .int .i64 s.h, .int .i64 s.o, .int .i64 s.k] 23)).alloc (.cells #[.int .i64 t.p, .int .i64 t.h, .int .i64 t.o, .int .i64 t.k] 23)).alloc (.cells #[.int .i64 0, .int .i64 0, .int .i64 0, .int .i64 0] 23)).alloc (.cells #[.int .i64 0, .int .i64 0, .int .i64 0, .int .i64 0] 23) = W at *
          have HF := Lib.hid hF
          obtain ⟨⟨a0, a1, a2, a3⟩, _⟩ := arr_cells hF.b0
          clear hF
          go_wp2_with (first
            | (go_at_call 12; (with_reducible refine (HC.out _).mono ?_); rintro e w1 ⟨rfl, ht1⟩; have HF1 := Lib.hid (HF.out.keep ht1); obtain ⟨⟨b0, b1, b2, b3⟩, _⟩ := arr_cells HF1.out.b1; clear ht1 a0 a1 a2 a3 HC)
            | (go_at_call 12; (with_reducible refine (HD.out _).mono ?_); rintro e w2 ⟨rfl, ht2⟩; have HF2 := Lib.hid (HF1.out.keep ht2); obtain ⟨⟨c0, c1, c2, c3⟩, f0, f1, f2, f3⟩ := arr_cells HF2.out.b2; obtain ⟨⟨d0, d1, d2, d3⟩, z0, z1, z2, z3⟩ := arr_cells HF2.out.b3; clear ht2))
          obtain ⟨h1, h2, h3⟩ := HF2.out.fin Sc.zero Sc.zero rfl
          exact bodyPost_ret (res2 Try.results8 _ _ _ _ _ _ h1 h2 rfl rfl) rfl ⟨rfl, h3⟩
      · have hg : hitP s t n out = (byP s n out, whoP t out, 0) := by unfold hitP; rw [if_pos ⟨hs, ht⟩, if_neg hn]
        rw [hg]
        have hn1 : ¬ n < 1 := by omega
        have hn3 : ¬ 3 < n := by omega
        obtain ⟨⟨r1, r2⟩, ⟨r3, r4⟩, ⟨r5, r6⟩, ⟨r7, r8⟩⟩ := hs
        obtain ⟨⟨q1, q2⟩, ⟨q3, q4⟩, ⟨q5, q6⟩, ⟨q7, q8⟩⟩ := ht
        have HB1 := Lib.hid (bound_any (s.h + 1))
        cases out with
        | false =>
          have HB2 := Lib.hid (bound_any (s.p + n))
          simp only [byP, whoP, Bool.false_eq_true, if_false]
          generalize clampI (s.h + 1) = ch at *
          generalize clampI (s.p + n) = cp at *
          clear hg hn
          unfold Sc.val at *
          go_enter Try.func8, Try.ntmps8
          go_upto_region 1 with fail
          generalize (((w.alloc (.cells #[.int .i64 s.p, .int .i64 s.h, .int .i64 s.o, .int .i64 s.k] 23)).alloc (.cells #[.int .i64 t.p, .int .i64 t.h, .int .i64 t.o, .int .i64 t.k] 23)).alloc (.cells #[.int .i64 0, .int .i64 0, .int .i64 0, .int .i64 0] 23)).alloc (.cells #[.int .i64 0, .int .i64 0, .int .i64 0, .int .i64 0] 23) = W at *
          have HF := Lib.hid hF
          obtain ⟨⟨a0, a1, a2, a3⟩, _⟩ := arr_cells hF.b0
          clear hF
          go_upto_region 8 with (first
            | (go_at_call 12; (with_reducible refine (HC.out _).mono ?_); rintro e w1 ⟨rfl, ht1⟩; have HF1 := Lib.hid (HF.out.keep ht1); obtain ⟨⟨b0, b1, b2, b3⟩, _⟩ := arr_cells HF1.out.b1; clear ht1 a0 a1 a2 a3 HC)
            | (go_at_call 12; (with_reducible refine (HD.out _).mono ?_); rintro e w2 ⟨rfl, ht2⟩; have HF2 := Lib.hid (HF1.out.keep ht2); obtain ⟨⟨c0, c1, c2, c3⟩, f0, f1, f2, f3⟩ := arr_cells HF2.out.b0; clear ht2 b0 b1 b2 b3)
            | (go_at_call 16; (with_reducible refine (HB1.out _).mono ?_); rintro e w3 ⟨rfl, rfl⟩)
            | (go_at_call 16; (with_reducible refine (HB2.out _).mono ?_); rintro e w4 ⟨rfl, rfl⟩))
          have HF4 := Lib.hid ((HF2.out.set0 1 (.int .i64 ch) ⟨s.p, ch, s.o, s.k⟩ (by simp [Sc.arr])).set0 0 (.int .i64 cp) ⟨cp, ch, s.o, s.k⟩ (by simp [Sc.arr]))
          generalize (w2.setCell ⟨w.heap.size, 1, none⟩ (.int .i64 ch)).setCell ⟨w.heap.size, 0, none⟩ (.int .i64 cp) = V at *
          clear c0 c1 c2 c3 f0 f1 f2 f3 HD HB1 HB2 r1 r2 r3 r4 r5 r6 r7 r8 q1 q2 q3 q4 q5 q6 q7 q8 hn1 hn3
          obtain ⟨⟨a0, a1, a2, a3⟩, _⟩ := arr_cells HF4.out.b0
          obtain ⟨⟨b0, b1, b2, b3⟩, _⟩ := arr_cells HF4.out.b1
          obtain ⟨⟨c0, c1, c2, c3⟩, f0, f1, f2, f3⟩ := arr_cells HF4.out.b2
          obtain ⟨⟨d0, d1, d2, d3⟩, z0, z1, z2, z3⟩ := arr_cells HF4.out.b3
          go_region
          all_goals
            go_wp2_with fail
            first
              | (obtain ⟨h1, h2, h3⟩ := HF4.out.fin' ⟨cp, ch, s.o, s.k⟩ t _ (.inl rfl); exact bodyPost_ret (res2 Try.results8 _ _ _ _ _ _ h1 h2 rfl rfl) rfl ⟨rfl, h3⟩)
              | (obtain ⟨h1, h2, h3⟩ := HF4.out.fin' ⟨cp, ch, s.o, s.k⟩ t _ (.inr rfl); exact bodyPost_ret (res2 Try.results8 _ _ _ _ _ _ h1 h2 rfl rfl) rfl ⟨rfl, h3⟩)
        | true =>
          have HB2 := Lib.hid (bound_any (s.p + n + 10 + min s.k 5))
          have HB3 := Lib.hid (bound_any (s.k + 1))
          have HB4 := Lib.hid (bound_any (t.o + 1))
          have HB5 := Lib.hid (bound_any (t.p - 2))
          simp only [byP, whoP, if_true]
          generalize clampI (s.h + 1) = ch at *
          generalize clampI (s.k + 1) = ck at *
          generalize clampI (t.o + 1) = co at *
          generalize clampI (t.p - 2) = cq at *
          generalize clampI (s.p + n + 10 + min s.k 5) = cp at *
          clear hg hn
          have hmin : ∀ (ts : Array TypeId) (ty : TypeId) (W : World), (Builtin.min_ ts ty #[.int .i64 s.k, .int .i64 5]).run Try.prog W = .ok (.int .i64 (min s.k 5)) W := fun ts ty W => by
            rw [run_min_int2]
            congr 2
            split <;> omega
          have hmb : 0 ≤ min s.k 5 ∧ min s.k 5 ≤ 5 := by omega
          generalize min s.k 5 = mk at *
          unfold Sc.val at *
          go_enter Try.func8, Try.ntmps8
          go_upto_region 1 with fail
          generalize (((w.alloc (.cells #[.int .i64 s.p, .int .i64 s.h, .int .i64 s.o, .int .i64 s.k] 23)).alloc (.cells #[.int .i64 t.p, .int .i64 t.h, .int .i64 t.o, .int .i64 t.k] 23)).alloc (.cells #[.int .i64 0, .int .i64 0, .int .i64 0, .int .i64 0] 23)).alloc (.cells #[.int .i64 0, .int .i64 0, .int .i64 0, .int .i64 0] 23) = W at *
          have HF := Lib.hid hF
          obtain ⟨⟨a0, a1, a2, a3⟩, _⟩ := arr_cells hF.b0
          clear hF
          go_upto_region 11 with (first
            | (go_at_call 12; (with_reducible refine (HC.out _).mono ?_); rintro e w1 ⟨rfl, ht1⟩; have HF1 := Lib.hid (HF.out.keep ht1); obtain ⟨⟨b0, b1, b2, b3⟩, _⟩ := arr_cells HF1.out.b1; clear ht1 a0 a1 a2 a3 HC)
            | (go_at_call 12; (with_reducible refine (HD.out _).mono ?_); rintro e w2 ⟨rfl, ht2⟩; have HF2 := Lib.hid (HF1.out.keep ht2); obtain ⟨⟨c0, c1, c2, c3⟩, f0, f1, f2, f3⟩ := arr_cells HF2.out.b0; clear ht2 b0 b1 b2 b3)
            | (go_at_call 16; (with_reducible refine (HB1.out _).mono ?_); rintro e w3 ⟨rfl, rfl⟩)
            | (go_at_call 16; (with_reducible refine (HB2.out _).mono ?_); rintro e w4 ⟨rfl, rfl⟩)
            | (go_at_call 16; (with_reducible refine (HB3.out _).mono ?_); rintro e w4 ⟨rfl, rfl⟩))
          have HF4 := Lib.hid (((HF2.out.set0 1 (.int .i64 ch) ⟨s.p, ch, s.o, s.k⟩ (by simp [Sc.arr])).set0 0 (.int .i64 cp) ⟨cp, ch, s.o, s.k⟩ (by simp [Sc.arr])).set0 3 (.int .i64 ck) ⟨cp, ch, s.o, ck⟩ (by simp [Sc.arr]))
          generalize ((w2.setCell ⟨w.heap.size, 1, none⟩ (.int .i64 ch)).setCell ⟨w.heap.size, 0, none⟩ (.int .i64 cp)).setCell ⟨w.heap.size, 3, none⟩ (.int .i64 ck) = V at *
          clear c0 c1 c2 c3 f0 f1 f2 f3 HD HB1 HB2 HB3 hmin r1 r2 r3 r4 r5 r6 r7 r8 hn1 hn3 hmb
          obtain ⟨⟨b0, b1, b2, b3⟩, f0, f1, f2, f3⟩ := arr_cells HF4.out.b1
          have ht2 : IntKind.i64.wrap (t.o + 1) = t.o + 1 := IntWalk.i64_in _ (by omega)
          have ht3 : IntKind.i64.wrap (t.p - 2) = t.p - 2 := IntWalk.i64_in _ (by omega)
          go_region_law
            ((go_simp; go_at_call 16; (first
              | ((with_reducible refine (HB4.out _).mono ?_); rintro e w5 ⟨rfl, rfl⟩)
              | ((with_reducible refine (HB5.out _).mono ?_); rintro e w6 ⟨rfl, rfl⟩))))
          all_goals
            have HF5 := Lib.hid ((((HF4.out.set1 2 (.int .i64 co) ⟨t.p, t.h, co, t.k⟩ (by simp [Sc.arr])).set1 3 (.int .i64 0) ⟨t.p, t.h, co, 0⟩ (by simp [Sc.arr])).set1 0 (.int .i64 cq) ⟨cq, t.h, co, 0⟩ (by simp [Sc.arr])).keep (Tch.refl None_ _).drew)
            generalize (((V.setCell ⟨w.heap.size + 1, 2, none⟩ (.int .i64 co)).setCell ⟨w.heap.size + 1, 3, none⟩ (.int .i64 0)).setCell ⟨w.heap.size + 1, 0, none⟩ (.int .i64 cq)).drew = V2 at *
            clear b0 b1 b2 b3 f0 f1 f2 f3 HB4 HB5 q1 q2 q3 q4 q5 q6 q7 q8 ht2 ht3
            obtain ⟨⟨a0, a1, a2, a3⟩, _⟩ := arr_cells HF5.out.b0
            obtain ⟨⟨b0, b1, b2, b3⟩, _⟩ := arr_cells HF5.out.b1
            obtain ⟨⟨c0, c1, c2, c3⟩, f0, f1, f2, f3⟩ := arr_cells HF5.out.b2
            obtain ⟨⟨d0, d1, d2, d3⟩, z0, z1, z2, z3⟩ := arr_cells HF5.out.b3
            go_wp2_with fail
            go_region
            all_goals
              go_wp2_with fail
              first
                | (obtain ⟨h1, h2, h3⟩ := HF5.out.fin' ⟨cp, ch, s.o, ck⟩ ⟨cq, t.h, co, 0⟩ _ (.inl rfl); exact bodyPost_ret (res2 Try.results8 _ _ _ _ _ _ h1 h2 rfl rfl) rfl ⟨rfl, h3⟩)
                | (obtain ⟨h1, h2, h3⟩ := HF5.out.fin' ⟨cp, ch, s.o, ck⟩ ⟨cq, t.h, co, 0⟩ _ (.inr rfl); exact bodyPost_ret (res2 Try.results8 _ _ _ _ _ _ h1 h2 rfl rfl) rfl ⟨rfl, h3⟩)
    · rw [chk_bad ht] at HD
      have hg : hitP s t n out = (Sc.zero, Sc.zero, 120) := by unfold hitP; rw [if_neg (fun h => ht h.2)]
      rw [hg]
      clear hg hs ht
      unfold Sc.val at *
      go_enter Try.func8, Try.ntmps8
      go_upto_region 1 with fail
      generalize (((w.alloc (.cells #[.int .i64 s.p, .int .i64 s.h, .int .i64 s.o, .int .i64 s.k] 23)).alloc (.cells #[.int .i64 t.p, .int .i64 t.h, .int .i64 t.o, .int .i64 t.k] 23)).alloc (.cells #[.int .i64 0, .int .i64 0, .int .i64 0, .int .i64 0] 23)).alloc (.cells #[.int .i64 0, .int .i64 0, .int .i64 0, .int .i64 0] 23) = W at *
      have HF := Lib.hid hF
      obtain ⟨⟨a0, a1, a2, a3⟩, _⟩ := arr_cells hF.b0
      clear hF
      go_wp2_with (first
        | (go_at_call 12; (with_reducible refine (HC.out _).mono ?_); rintro e w1 ⟨rfl, ht1⟩; have HF1 := Lib.hid (HF.out.keep ht1); obtain ⟨⟨b0, b1, b2, b3⟩, _⟩ := arr_cells HF1.out.b1; clear ht1 a0 a1 a2 a3 HC)
        | (go_at_call 12; (with_reducible refine (HD.out _).mono ?_); rintro e w2 ⟨rfl, ht2⟩; have HF2 := Lib.hid (HF1.out.keep ht2); obtain ⟨⟨c0, c1, c2, c3⟩, f0, f1, f2, f3⟩ := arr_cells HF2.out.b2; obtain ⟨⟨d0, d1, d2, d3⟩, z0, z1, z2, z3⟩ := arr_cells HF2.out.b3; clear ht2))
      obtain ⟨h1, h2, h3⟩ := HF2.out.fin Sc.zero Sc.zero rfl
      exact bodyPost_ret (res2 Try.results8 _ _ _ _ _ _ h1 h2 rfl rfl) rfl ⟨rfl, h3⟩
  · rw [chk_bad hs] at HC
    have hg : hitP s t n out = (Sc.zero, Sc.zero, 120) := by unfold hitP; rw [if_neg (fun h => hs h.1)]
    rw [hg]
    clear hg hs
    unfold Sc.val at *
    go_enter Try.func8, Try.ntmps8
    go_upto_region 1 with fail
    generalize (((w.alloc (.cells #[.int .i64 s.p, .int .i64 s.h, .int .i64 s.o, .int .i64 s.k] 23)).alloc (.cells #[.int .i64 t.p, .int .i64 t.h, .int .i64 t.o, .int .i64 t.k] 23)).alloc (.cells #[.int .i64 0, .int .i64 0, .int .i64 0, .int .i64 0] 23)).alloc (.cells #[.int .i64 0, .int .i64 0, .int .i64 0, .int .i64 0] 23) = W at *
    have HF := Lib.hid hF
    obtain ⟨⟨a0, a1, a2, a3⟩, _⟩ := arr_cells hF.b0
    clear hF
    go_wp2_with (go_at_call 12; (with_reducible refine (HC.out _).mono ?_); rintro e w1 ⟨rfl, ht1⟩; have HF1 := Lib.hid (HF.out.keep ht1); obtain ⟨⟨c0, c1, c2, c3⟩, f0, f1, f2, f3⟩ := arr_cells HF1.out.b2; obtain ⟨⟨d0, d1, d2, d3⟩, z0, z1, z2, z3⟩ := arr_cells HF1.out.b3; clear ht1 a0 a1 a2 a3)
    obtain ⟨h1, h2, h3⟩ := HF1.out.fin Sc.zero Sc.zero rfl
    exact bodyPost_ret (res2 Try.results8 _ _ _ _ _ _ h1 h2 rfl rfl) rfl ⟨rfl, h3⟩
end Go.Proofs.Ytkamhbfgjmfijaa
