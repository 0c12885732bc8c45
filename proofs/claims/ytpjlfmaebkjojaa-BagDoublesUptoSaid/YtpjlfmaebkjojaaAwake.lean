/-
  No statement is proved here: the law's function awake returns true (a walk of the code).
-/
import Derived.Test.YtpjlfmaebkjojaaBagb
namespace Go.Proofs.Ytpjlfmaebkjojaa
open Go.RowKit Go.Maps

theorem one_reads (w : World) (x : Int) : Reads (w.alloc (.cells #[.int .u8 x] 5)) (w.heap.size + 1) 1 (some ⟨w.heap.size, 0, none⟩) 1 (u8s [x]) :=
  ⟨rfl, fun _ => ⟨_, rfl, by simp, fun j u hu => by rw [add_plain, cell_of_row _ _ _ _ _ (0, 0) (heap_alloc_new w _)]; simpa [u8s] using hu⟩⟩

set_option maxRecDepth 100000 in
set_option maxHeartbeats 1000000 in
theorem awake_any (w : World) : Calls Try.prog 6 #[] w fun e w' => e = .returned (.bool true) ∧ Tch None_ w w' := by
  go_enter Try.func6, Try.ntmps6
  go_wp2_with fail
  refine (New_any w).mono ?_
  rintro e w1 ⟨g, mb, rfl, hg1, hgg, hmm, ht1⟩
  have hg1 := hg1 w.heap.size
  go_wp2_with fail
  have t1 : Tch None_ w1 (w1.alloc (.cells #[.int .u8 97] 5)) := (Tch.refl _ _).alloc _
  have lt1 : w1.heap.size ≠ g ∧ w1.heap.size ≠ mb := by have := hg1.box.lt; have := hg1.map.lt; omega
  refine (Send_any g mb w.heap.size 0 [] 0 1 1 1 (w1.heap.size + 1) _ [97] _ (hg1.keep t1) (by omega) (by simp) (by have := ht1.size; simp; omega) (one_reads w1 97) (fun _ ad h => by simp at h; subst h; exact lt1) (by omega)).mono ?_
  rintro e w2 ⟨v1, rfl, hg2, _, t2⟩
  have ht2 : Tch None_ w w2 := (ht1.then t1).trans t2 (fun i hi e => by omega)
  clear t1 lt1 t2 hg1
  go_wp2_with fail
  have t1 : Tch None_ w2 (w2.alloc (.cells #[.int .u8 98] 5)) := (Tch.refl _ _).alloc _
  have lt1 : w2.heap.size ≠ g ∧ w2.heap.size ≠ mb := by have := hg2.box.lt; have := hg2.map.lt; omega
  refine (Send_any g mb w.heap.size 1 _ 1 0 1 1 (w2.heap.size + 1) _ [98] _ (hg2.keep t1) (by omega) (by simp) (by have := ht2.size; simp; omega) (one_reads w2 98) (fun _ ad h => by simp at h; subst h; exact lt1) (by omega)).mono ?_
  rintro e w3 ⟨v2, rfl, hg3, _, t2⟩
  have ht3 : Tch None_ w w3 := (ht2.then t1).trans t2 (fun i hi e => by omega)
  clear t1 lt1 t2 hg2
  go_wp2_with fail
  refine (Double_hit g mb w.heap.size 2 [] [⟨2, 1, 0, [98], v2⟩] ⟨1, 0, 1, [97], v1⟩ w3 hg3 (by omega) ht3.size).mono ?_
  rintro e w4 ⟨v3, rfl, hg4, _, t2⟩
  have ht4 : Tch None_ w w4 := ht3.trans t2 (fun i hi e => by omega)
  clear t2 hg3
  go_wp2_with fail
  have hrow := hg4.rows ⟨3, 0, 1, [97], v3⟩ (by simp)
  obtain ⟨A3, c3, hv3, _, _⟩ := own_form hrow
  simp only at hv3
  subst hv3
  refine (Deliver_hit g mb w.heap.size 3 [⟨1, 0, 1, [97], v1⟩, ⟨2, 1, 0, [98], v2⟩] [] ⟨3, 0, 1, [97], .slice A3 _ c3⟩ w4 hg4 (by omega)).mono ?_
  rintro e w5 ⟨rfl, hg5, t2⟩
  have hne : ∀ k, (Value.slice A3 1 c3).ownBlock = some k → k ≠ mb := fun k hk => (hg4.blk_ne k (List.mem_filterMap.2 ⟨⟨3, 0, 1, [97], .slice A3 _ c3⟩, by simp, hk⟩)).2
  have hrow5 : w5.ownsRow w.heap.size 5 1 (.slice A3 1 c3) 1 (u8s [97]) := t2.row hrow hne
  have ht5 : Tch None_ w w5 := ht4.trans t2 (fun i hi e => by omega)
  clear t2 hg4 hrow
  simp only [Par.val]
  go_wp2_with fail
  have lg5 := hg5.box.lt
  have lm5 := hg5.map.lt
  have hb6 := Blk.new w5 31 #[.int .i64 3, .int .i64 0, .int .i64 1, .slice A3 1 c3]
  have T6 : Tch None_ w5 (w5.alloc (.cells #[.int .i64 3, .int .i64 0, .int .i64 1, .slice A3 1 c3] 31)) := (Tch.refl _ _).alloc _
  have hrow6 := T6.row hrow5 (fun _ _ h => h)
  have hg6 := hg5.keep T6
  have ht6 := ht5.quiet T6
  refine (Drop_hit g mb w.heap.size 3 [] [⟨2, 1, 0, [98], v2⟩] ⟨1, 0, 1, [97], v1⟩ _ hg6 (by omega)).mono ?_
  rintro e w7 ⟨rfl, hg7, t2⟩
  have hb7 := hb6.tch t2 (show ¬ (w5.heap.size = mb) by omega)
  have hrow7 := t2.row hrow6 hne
  have ht7 : Tch None_ w w7 := ht6.trans t2 (fun i hi e => by omega)
  clear hb6 T6 hrow6 hg6 ht6 t2
  go_wp2_with fail
  refine (Deliver_miss g mb w.heap.size 3 _ 1 w7 hg7 (by omega) (by omega) (by simp)).mono ?_
  rintro e w8 ⟨rfl, t2⟩
  have hb8 := hb7.keep t2
  have hrow8 := t2.row hrow7 (fun _ _ h => h)
  have hg8 := hg7.keep t2
  have ht8 := ht7.quiet t2
  clear hb7 hrow7 hg7 ht7 t2
  have T9 : Tch None_ w8 (w8.alloc (.cells #[.int .i64 0, .int .i64 0, .int .i64 0, .slice none 0 0] 31)) := (Tch.refl _ _).alloc _
  have hb9 := hb8.keep T9
  have hr9 := (Reads.of_own hrow8).tch T9 (Nat.le_refl _) (fun _ _ h => h)
  have hg9 := hg8.keep T9
  have k0 := hb9.cell 0
  have k1 := hb9.cell 1
  have k2 := hb9.cell 2
  have k3 := hb9.cell 3
  simp at k0 k1 k2 k3
  go_wp2_with fail
  have e9 : (w8.alloc (.cells #[.int .i64 0, .int .i64 0, .int .i64 0, .slice none 0 0] 31)).heap.size = w8.heap.size + 1 := by simp
  generalize w8.alloc (.cells #[.int .i64 0, .int .i64 0, .int .i64 0, .slice none 0 0] 31) = W9 at *
  have T10 : Tch None_ W9 (W9.alloc (.cells #[.int .u8 97] 5)) := (Tch.refl _ _).alloc _
  refine (Same_yes 3 0 1 1 c3 1 (W9.heap.size + 1) A3 (some ⟨w8.heap.size + 1, 0, none⟩) [97] _ (by simp) ((hr9.tch T10 T9.size (fun _ _ h => h)).more (by have := T9.size; omega)) (by rw [← e9]; exact one_reads W9 97)).mono ?_
  rintro e w10 ⟨rfl, t2⟩
  have hg10 := (hg9.keep T10).keep t2
  have ht10 := ((ht8.then T9).quiet T10).quiet t2
  go_wp2_with fail
  refine (Len_any g mb w.heap.size 3 _ w10 hg10).mono ?_
  rintro e w11 ⟨rfl, rfl⟩
  go_wp2_with fail
  go_ret
  exact ⟨rfl, ht10⟩
end Go.Proofs.Ytpjlfmaebkjojaa
