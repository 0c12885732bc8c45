/-
  No statement is proved here: the program's Ranking (a walk of the code).
-/
import Derived.Test.YtkamhbfgjmfijaaSe
namespace Go.Proofs.Ytkamhbfgjmfijaa
open Go.RowKit

def good (l : List Sc) : Prop := l.length ≤ 6 ∧ ∀ i, i < l.length → (sl l i).fine
theorem chk_fine {s : Sc} (h : s.fine) : chk s = 0 := if_pos h
theorem chk_bad {s : Sc} (h : ¬ s.fine) : chk s = 120 := if_neg h
/-- What Ranking leaves. -/
def RankPost (l : List Sc) (w : World) (x : Ending) (w' : World) : Prop := (¬ good l ∧ x = .returned (.tuple #[.slice none 0 0, .int .i64 120]) ∧ Tch None_ w w') ∨
  (good l ∧ ∃ v zs, x = .returned (.tuple #[v, .int .i64 0]) ∧ zs.Perm (List.range l.length) ∧ zs.Pairwise (Ahd l) ∧ w'.ownsRow w.heap.size 3 1 v l.length (nums zs) ∧ Tch None_ w w')
theorem infoInt : (Try.prog.info? 3).map (fun i => (i.zero, i.size, i.bytes)) = some (some (.int .i64 0), 1, 8) := by kernel_rfl
theorem one_num (w : World) (i : Nat) : Reads (w.alloc (.cells #[.int .i64 (i : Int)] 3)) (w.heap.size + 1) 1 (some ⟨w.heap.size, 0, none⟩) 1 (nums [i]) :=
  ⟨rfl, fun _ => ⟨_, rfl, by simp, fun j u hu => by rw [add_plain, cell_of_row _ _ _ _ _ (0, 0) (heap_alloc_new w _)]; simpa [nums] using hu⟩⟩

set_option maxRecDepth 100000 in
set_option maxHeartbeats 4000000 in
theorem rank_any (l : List Sc) (m cm B : Nat) (A : Option Addr) (w : World) (hr : Reads w B 4 A m (l.flatMap Sc.cells)) (hl : l.length = m) (hB : B ≤ w.heap.size) :
    Calls Try.prog 14 #[.slice A m cm] w (RankPost l w) := by
  obtain ⟨i0, hi0, hz0, hz1, hz2⟩ := info_parts infoInt
  have HR := Lib.hid hr
  have HL := Lib.hid hl
  clear hr hl
  by_cases hm : m ≤ 6
  · go_enter Try.func14, Try.ntmps14
    go_wp2_with fail
    go_loopg [4, 13] m (fun gh s4 s13 wr => ∃ (k : Nat) (vin : Value), vin = s4 ∧ s13 = .int .i64 k ∧ m - k = gh ∧ k ≤ m ∧ Hid (∀ i, i < k → (sl l i).fine) ∧ Hid (wr.ownsRow w.heap.size 3 1 vin k (nums (List.range k))) ∧ Hid (Tch None_ w wr))
    case atStart => exact ⟨0, _, rfl, rfl, rfl, by omega, fun i h => absurd h (by omega), World.ownsRow_nil _ _ _ _, Tch.refl _ _⟩
    case round =>
      obtain ⟨k, vin, rfl, rfl, rfl, hk, HF, HRW, HT⟩ := hrel
      by_cases hlt : k < m
      · obtain ⟨b, o, rfl, hbl, x0, x1, x2, x3⟩ := (HR.out.tch HT.out hB (fun _ _ h => h)).sc HL.out k hlt
        have HC := Lib.hid (Check_any (sl l k))
        unfold Sc.val at HC
        have hx := ((HRW.out.alloc (.cells #[.int .i64 (sl l k).p, .int .i64 (sl l k).h, .int .i64 (sl l k).o, .int .i64 (sl l k).k] 23)))
        by_cases hf : (sl l k).fine
        · have hc := chk_fine hf
          have HFK := Lib.hid hf
          rw [hc] at HC
          clear hc hf hx
          have h63 : k + 1 ≤ maxLen := by simp only [maxLen]; omega
          have h64 : (k + 1) * 8 ≤ 140737488355328 := by omega
          obtain ⟨Av, cv, rfl, _, _⟩ := own_form HRW.out
          have HSZ := Lib.hid HT.out.size
          go_wp2_with (first
            | (go_at_call 12; (with_reducible refine (HC.out _).mono ?_); rintro e w1 ⟨rfl, ht1⟩; have HT1 := Lib.hid (((Tch.refl None_ wr).alloc (.cells #[.int .i64 (sl l k).p, .int .i64 (sl l k).h, .int .i64 (sl l k).o, .int .i64 (sl l k).k] 23)).then ht1); clear ht1; have hx := (HT1.out.row HRW.out (fun _ _ h => h)).alloc (.cells #[.int .i64 (k : Int)] 3); have hszw : w.heap.size ≤ w1.heap.size := Nat.le_trans HSZ.out HT1.out.size)
            | (at_builtin; refine wpList_append_any _ rfl (.tmp 21) (.tmp 23) 33 rfl w.heap.size 3 i0 _ 1 8 Try.underlying33 hi0 hz0 hz1 hz2 rfl (by omega) _ _ _ rfl hx (w1.heap.size + 1) (some ⟨w1.heap.size, 0, none⟩) 1 1 (nums [k]) rfl (one_num w1 k) (by simp [nums, Value.oneCell']) h63 h64 (by simp; omega) ?_; intro v2 w2 hown2 hg2 hat2; have HO2 := Lib.hid hown2; have HG2 := Lib.hid hg2; clear hx hown2 hg2 hat2))
          go_roundg (m - (k + 1))
          case measure => omega
          case rel =>
            refine ⟨k + 1, v2, rfl, by go_num, rfl, by omega, fun i hi => ?_, ?_, ?_⟩
            · rcases Nat.lt_succ_iff_lt_or_eq.1 hi with h | rfl
              · exact HF.out i h
              · exact HFK.out
            · have := HO2.out
              rw [List.range_succ]
              simpa [nums, Hid] using this
            · have T2 : Tch (fun j => some j = (Value.slice Av k cv).ownBlock) w1 w2 := (Tch.any ((Tch.refl None_ w1).alloc _)).grown HG2.out (fun j hj => .inl hj.symm)
              exact (HT.out.then HT1.out).trans T2 (fun i hi e => by have := (HRW.out.lt i e.symm).1; omega)
        · have hc := chk_bad hf
          have HFK := Lib.hid hf
          rw [hc] at HC
          clear hc hf
          go_wp2_with (go_at_call 12; (with_reducible refine (HC.out _).mono ?_); rintro e w1 ⟨rfl, ht1⟩)
          go_ret2
          exact .inl ⟨fun h => HFK.out (h.2 k (by rw [HL.out]; exact hlt)), rfl, (HT.out.alloc _).then ht1⟩
      · obtain rfl : k = m := by omega
        obtain ⟨D, c, rfl, _, _⟩ := own_form HRW.out
        have HSO := Lib.hid (sort_any l k cm A B w.heap.size (List.range k) D k c wr (HR.out.tch HT.out hB (fun _ _ h => h)) HL.out hB HT.out.size HRW.out (fun y hy => by simpa using hy) List.nodup_range (by omega))
        go_wp2_with (go_at_call 19; (with_reducible refine HSO.out.mono ?_); rintro e w1 ⟨rfl, zs, hz1', hz2', hz3', hz4'⟩)
        go_ret2
        refine .inr ⟨⟨by rw [HL.out]; exact hm, fun i hi => HF.out i (by rw [← HL.out]; exact hi)⟩, _, zs, rfl, by rw [HL.out]; exact hz1', hz2', by rw [HL.out]; exact hz3', HT.out.trans hz4' (fun i hi e => ?_)⟩
        have := (HRW.out.lt i e.symm).1
        omega
  · have hm' : 6 < m := by omega
    go_enter Try.func14, Try.ntmps14
    go_wp2_with fail
    go_ret2
    exact .inl ⟨fun h => hm (by rw [← HL.out]; exact h.1), rfl, Tch.refl _ _⟩
end Go.Proofs.Ytkamhbfgjmfijaa
