/-
  No statement is proved here: what each function of package gate, and each function of Go's library that it calls, comes to (walks of the code).
-/
import Derived.Test.YtcineclpmacfhaaRows
import Derived.Test.YtcineclpmacfhaaLib
import Derived.WalkSpells
import Derived.StillTailTactics
namespace Go.Proofs.Ytcineclpmacfhaa
open Go.RowKit

theorem info2 : (Try.prog.info? 2).map (fun i => (i.zero, i.size, i.bytes)) = some (some (.int .i64 0), 1, 8) := by kernel_rfl
theorem bytes2 : Try.t2.bytes = 8 := by kernel_rfl

def minL (x : Int) (l : List Int) : Int := l.foldl min x
theorem minL_snoc (x : Int) (l : List Int) (y : Int) : minL x (l ++ [y]) = min (minL x l) y := by simp [minL]

set_option maxHeartbeats 400000 in
theorem least_any (x : Int) (A : Option Addr) (n cap B : Nat) (l : List Int) (w : World) (hr : Reads w B 1 A n (l.map (Value.int .i64))) (hn : n ≤ 1000) :
    Calls Try.prog 15 #[.int .i64 x, .slice A n cap] w fun e w' => e = .returned (.int .i64 (minL x l)) ∧ w = w' := by
  have hl : l.length = n := by simpa using hr.1
  have hc : ∀ i, i < n → ∃ ad, A = some ad ∧ w.cell? (ad.add i) = some (.int .i64 (l.getD i 0)) := by
    intro i hi
    obtain ⟨ad, h1, _, h2⟩ := hr.2 (by omega)
    exact ⟨ad, h1, h2 i _ (by simp [List.getElem?_map, List.getD, List.getElem?_eq_getElem (show i < l.length by omega)])⟩
  clear hr
  go_enter Try.func15, Try.ntmps15
  go_wp2
  go_loop [0, 9] (fun t i => ∃ k : Nat, k ≤ n ∧ i = .int .i64 k ∧ t = .int .i64 (minL x (l.take k))) (fun _ i => n - (intOf i).toNat)
  case atStart => exact ⟨0, by omega, rfl, by simp [minL]⟩
  case round =>
    obtain ⟨k, hk, rfl, rfl⟩ := hrel
    by_cases hlt : k < n
    · obtain ⟨ad, rfl, h1⟩ := hc k hlt
      have h2 : minL x (l.take (k+1)) = min (minL x (l.take k)) (l.getD k 0) := by
        rw [List.take_succ_eq_append_getElem (by omega), minL_snoc]; simp [List.getD, hl, hlt]
      have H2 := Lib.hid h2
      clear h2 hc
      go_wp2
      go_round
      case rel => exact ⟨k + 1, by omega, by go_num, by rw [H2.out]; simp [List.getD, hl, hlt]; split <;> omega⟩
      case measure => simp [intOf]; omega
    · clear hc
      go_wp2
      go_ret
      exact ⟨ret_int (by rw [List.take_of_length_le (by omega)]), rfl⟩

theorem cap_fits (n : Nat) (h0 : 0 < n) (h1 : n ≤ 1000) : ¬ 281474976710656 < Builtin.nextslicecap n 0 * 8 := by
  have := growslice_fits (need := n) (old := 0) (bytes := 8) (by omega) (by omega)
  omega

set_option maxHeartbeats 400000 in
theorem grow_any (n : Nat) (w : World) (h0 : 0 < n) (h1 : n ≤ 1000) :
    Calls Try.prog 23 #[.slice none 0 0, .int .i64 n] w fun e w' => ∃ g c, e = .returned (.slice (some ⟨g, 0, none⟩) 0 c) ∧ w'.ownsRow w.heap.size 2 1 (.slice (some ⟨g, 0, none⟩) 0 c) 0 [] ∧ Tch None_ w w' := by
  have hb := bytes2
  have hf := cap_fits n h0 h1
  go_enter Try.func23, Try.ntmps23
  go_wp2_with fail
  go_ret
  have hge := grownCap_ge w n 0 2
  have hle := grownCap_le_maxLen w n 0 2 (by simp only [maxLen]; omega)
  refine ⟨_, _, rfl, World.ownsRow_made w _ _ (Nat.le_refl _) hle ?_, ((Tch.refl _ _).alloc _).drew⟩
  simp only [Array.size_append, size_zeroCells, grownCap] at *
  simp
  omega

set_option maxHeartbeats 400000 in
theorem concat_any (o c n1 c1 n2 c2 B : Nat) (A1 A2 : Option Addr) (l1 l2 : List Int) (w : World) (hB : B ≤ w.heap.size)
    (hr1 : Reads w B 1 A1 n1 (l1.map (Value.int .i64))) (hr2 : Reads w B 1 A2 n2 (l2.map (Value.int .i64))) (hn1 : n1 ≤ 100) (hn2 : n2 ≤ 100) (hn : 0 < n1 + n2)
    (ho0 : w.cell? ⟨o, 0, none⟩ = some (.slice A1 n1 c1)) (ho1 : w.cell? ⟨o, 1, none⟩ = some (.slice A2 n2 c2)) (ho : o < w.heap.size) :
    Calls Try.prog 16 #[.slice (some ⟨o, 0, none⟩) 2 c] w fun e w' => ∃ v, e = .returned v ∧ w'.ownsRow w.heap.size 2 1 v (n1 + n2) ((l1 ++ l2).map (Value.int .i64)) ∧ Tch None_ w w' := by
  go_enter Try.func16, Try.ntmps16
  go_wp2_with fail
  refine wp_loop_rounds 3 ?_
  rw [rounds_succ]; go_wp2_with fail
  rw [rounds_succ]; go_wp2_with fail
  rw [rounds_succ]; go_wp2_with fail
  rw [show ((n1 : Int) + n2) = ((n1 + n2 : Nat) : Int) from by omega]
  refine (grow_any (n1 + n2) _ hn (by omega)).mono ?_
  rintro e w1 ⟨g, cp, rfl, hown, ht⟩
  have hr1' := hr1.tch ht hB (fun _ _ h => h)
  have hr2' := hr2.tch ht hB (fun _ _ h => h)
  have q0 : w1.cell? ⟨o, 0, none⟩ = some (.slice A1 n1 c1) := (ht.cell ho (fun h => h)).trans ho0
  have q1 : w1.cell? ⟨o, 1, none⟩ = some (.slice A2 n2 c2) := (ht.cell ho (fun h => h)).trans ho1
  obtain ⟨i0, hi, hz0, hz1, hz2⟩ := info_parts info2
  have hB1 : w.heap.size ≤ w1.heap.size := ht.size
  go_wp2_with fail
  refine wp_loop_rounds 3 ?_
  rw [rounds_succ]
  go_wp2_with (at_builtin; refine wpList_append_any _ rfl (.tmp 31) (.tmp 32) 33 rfl w.heap.size 2 i0 (.int .i64 0) 1 8 Try.underlying33 hi hz0 hz1 hz2 rfl (by omega) _ _ _ rfl hown B A1 n1 c1 _ rfl hr1' (ints_one l1) (by simp only [maxLen]; omega) (by omega) hB1 ?_)
  intro v2 w2 hown2 hg2 hat2
  have ht2 : Tch None_ w w2 := ht.grown hg2 (fun k hk => .inr (hown.lt k hk).1)
  have hr2'' := hr2.tch ht2 hB (fun _ _ h => h)
  have q1' : w2.cell? ⟨o, 1, none⟩ = some (.slice A2 n2 c2) := (ht2.cell ho (fun h => h)).trans ho1
  have hB2 : w.heap.size ≤ w2.heap.size := ht2.size
  clear q0 q1 hr1' hr2' hown ho0 ho1
  go_wp2_with fail
  rw [rounds_succ]
  go_wp2_with (at_builtin; refine wpList_append_any _ rfl (.tmp 31) (.tmp 32) 33 rfl w.heap.size 2 i0 (.int .i64 0) 1 8 Try.underlying33 hi hz0 hz1 hz2 rfl (by omega) _ _ _ rfl hown2 B A2 n2 c2 _ rfl hr2'' (ints_one l2) (by simp only [maxLen]; omega) (by omega) hB2 ?_)
  intro v3 w3 hown3 hg3 hat3
  have ht3 : Tch None_ w w3 := ht2.grown hg3 (fun k hk => .inr (hown2.lt k hk).1)
  go_wp2_with fail
  rw [rounds_succ]
  go_wp2_with fail
  go_ret
  exact ⟨v3, rfl, by rw [List.map_append]; exact hown3, ht3⟩

set_option maxHeartbeats 400000 in
theorem clone_any (n c B : Nat) (ad : Addr) (l : List Int) (w : World) (hB : B ≤ w.heap.size) (hr : Reads w B 1 (some ad) n (l.map (Value.int .i64))) (hn : n ≤ 1000) :
    Calls Try.prog 17 #[.slice (some ad) n c] w fun e w' => ∃ v, e = .returned v ∧ w'.ownsRow w.heap.size 2 1 v n (l.map (Value.int .i64)) ∧ Tch None_ w w' := by
  obtain ⟨i0, hi, hz0, hz1, hz2⟩ := info_parts info2
  have he := Lib.run_eql_slice_nil (P := Try.prog) w 33 2 (some ad) n c 0 0 Try.underlying33
  go_enter Try.func17, Try.ntmps17
  have hown := World.ownsRow_made (e := 2) (size := 1) w #[] 0 (Nat.le_refl _) (by simp [maxLen]) rfl
  go_wp2_with (at_builtin; refine wpList_append_any _ rfl (.tmp 5) (.tmp 6) 33 rfl w.heap.size 2 i0 (.int .i64 0) 1 8 Try.underlying33 hi hz0 hz1 hz2 rfl (by omega) _ _ _ rfl hown B (some ad) n c _ rfl (hr.alloc hB _) (ints_one l) (by simp only [maxLen]; omega) (by omega) (by simp) ?_)
  intro v2 w2 hown2 hg2 hat2
  go_wp2_with fail
  go_ret
  exact ⟨v2, rfl, hown2, ((Tch.refl _ _).alloc _).grown hg2 (fun k hk => .inr (hown.lt k hk).1)⟩

/-- A gate in memory: its block g, its marks' block m. -/
def GateAt (w : World) (g m : Nat) (l : List Int) (s : Nat) : Prop :=
  Blk w g 51 #[.slice (some ⟨m, 0, none⟩) l.length l.length, .int .i64 s] ∧ Blk w m 2 (l.map (Value.int .i64)).toArray

def restL (l : List Int) (s : Nat) : List Int := l.take s ++ l.drop (s + 1)
def leastL (l : List Int) (s : Nat) : Int := minL ((restL l s).headD 0) (restL l s).tail

set_option maxHeartbeats 400000 in
theorem Least_any (g m s : Nat) (l : List Int) (w : World) (hg : GateAt w g m l s) (h2 : 2 ≤ l.length) (h6 : l.length ≤ 6) (hs : s < l.length) :
    Calls Try.prog 8 #[.pointer (some ⟨g, 0, none⟩)] w fun e w' => e = .returned (.int .i64 (leastL l s)) ∧ Tch None_ w w' := by
  have c0 := hg.1.cell 0
  have c1 := hg.1.cell 1
  simp at c0 c1
  go_enter Try.func8, Try.ntmps8
  have f1 : s ≤ l.length := by omega
  have f2 : IntKind.i64.wrap ((s : Int) + 1) = (s : Int) + 1 := IntWalk.i64_in _ (by omega)
  have f3 : (0 : Int) ≤ (s : Int) + 1 := by omega
  have f4 : (s : Int) + 1 ≤ (l.length : Int) := by omega
  have f5 : ((s : Int) + 1).toNat = s + 1 := by omega
  go_wp2_with fail
  go_still_tail 19, (by kernel_rfl)
  change wpList _ _ _ _ _ w.drew
  clear f1 f2 f3 f4 f5 c0 c1
  have hlt : m < w.heap.size := hg.2.lt
  have r1 : Reads (w.drew.alloc (.cells #[.slice (some ⟨m, 0, none⟩) s l.length, .slice (if l.length = s + 1 then some ⟨m, 0, none⟩ else some ⟨m, s + 1, none⟩) (l.length - (s + 1)) (l.length - (s + 1))] 33)) w.heap.size 1 (some ⟨m, 0, none⟩) s ((l.take s).map (Value.int .i64)) := by
    refine Reads.alloc ?_ (Nat.le_refl _) _
    refine ⟨by simp; omega, fun _ => ⟨_, rfl, hlt, fun j u hu => ?_⟩⟩
    refine hg.2.reads j u ?_
    rw [List.map_take, List.getElem?_take] at hu
    split at hu
    · simpa using hu
    · cases hu
  have r2 : Reads (w.drew.alloc (.cells #[.slice (some ⟨m, 0, none⟩) s l.length, .slice (if l.length = s + 1 then some ⟨m, 0, none⟩ else some ⟨m, s + 1, none⟩) (l.length - (s + 1)) (l.length - (s + 1))] 33)) w.heap.size 1 (if l.length = s + 1 then some ⟨m, 0, none⟩ else some ⟨m, s + 1, none⟩) (l.length - (s + 1)) ((l.drop (s + 1)).map (Value.int .i64)) := by
    refine Reads.alloc ?_ (Nat.le_refl _) _
    refine ⟨by simp, fun hn => ?_⟩
    rw [if_neg (by omega)]
    refine ⟨_, rfl, hlt, fun j u hu => ?_⟩
    have := hg.2.reads (s + 1 + j) u (by rw [List.map_drop, List.getElem?_drop] at hu; simpa using hu)
    rw [add_plain] at this ⊢
    simpa using this
  generalize hA : (if l.length = s + 1 then some (⟨m, 0, none⟩ : Addr) else some ⟨m, s + 1, none⟩) = A at *
  clear hA
  go_wp2_with fail
  refine (concat_any w.heap.size 2 s l.length (l.length - (s + 1)) (l.length - (s + 1)) w.heap.size (some ⟨m, 0, none⟩) A (l.take s) (l.drop (s + 1)) _ (by simp) r1 r2 (by omega) (by omega) (by omega)
    (cell_of_row _ _ _ _ _ (0, 0) (heap_alloc_new w _)) (cell_of_row _ _ _ _ _ (0, 0) (heap_alloc_new w _)) (by simp)).mono ?_
  rintro e w1 ⟨v, rfl, hown, ht⟩
  have ht1 : Tch None_ w w1 := (((Tch.refl _ _).alloc _).drew).then ht
  have hlen : (restL l s).length = s + (l.length - (s + 1)) := by simp [restL]; omega
  change World.ownsRow _ _ _ _ _ _ ((restL l s).map (Value.int .i64)) at hown
  obtain ⟨x, tl, hxt⟩ : ∃ x tl, restL l s = x :: tl := by
    match h : restL l s, hlen with
    | x :: tl, _ => exact ⟨x, tl, rfl⟩
    | [], hl => simp at hl; omega
  have HL : Hid (leastL l s = minL x tl) := by unfold leastL; rw [hxt]; rfl
  rw [hxt] at hown hlen
  clear hxt
  obtain ⟨A', c', rfl, hc', _⟩ := own_form hown
  obtain ⟨g', cs, rfl, _, _, hcm, hcs, htk, hb⟩ := Blk.of_own hown (by omega)
  simp only [List.length_cons] at hlen
  rw [← hlen] at hown hc' htk ⊢
  simp only [Nat.mul_one] at htk hcs
  have hx : w1.cell? ⟨g', 0, none⟩ = some (.int .i64 x) := by
    rw [hb.cell]
    have := congrArg (·[0]?) htk
    simp at this
    simpa using this
  have r3 : Reads w1 w1.heap.size 1 (if c' = 1 then some ⟨g', 0, none⟩ else some ⟨g', 1, none⟩) tl.length (tl.map (Value.int .i64)) := by
    refine ⟨by simp, fun hn => ?_⟩
    rw [if_neg (by omega)]
    refine ⟨_, rfl, hb.lt, fun j u hu => ?_⟩
    have := hb.reads (1 + j) u (by
      have h := congrArg (·[1 + j]?) htk
      simp only [List.getElem?_take] at h
      rw [if_pos (by have := (List.getElem?_eq_some_iff.1 hu).1; simp at this; omega)] at h
      rw [h]; simpa [Nat.add_comm 1 j] using hu)
    rw [add_plain] at this ⊢
    simpa using this
  have h6' : tl.length ≤ 1000 := by omega
  clear r1 r2 ht hown hb htk hcs hlen h2 h6 hs hg hcm
  go_wp2_with fail
  go_quiet ((go_at_call 15; exact Calls.quiet_of_same ((least_any _ _ _ _ _ _ _ (r3.drewN _) h6').mono fun _ _ h => ⟨h.1, h.2.symm⟩)))
  go_wp2_with fail
  all_goals go_ret
  all_goals exact ⟨ret_int HL.out.symm, ht1.drewN _⟩
end Go.Proofs.Ytcineclpmacfhaa
