/-
  No statement is proved here: what gate's New, Mark, Marks and Plan come to (walks of the code).
-/
import Derived.Test.YtcineclpmacfhaaGate
namespace Go.Proofs.Ytcineclpmacfhaa
open Go.RowKit

set_option maxHeartbeats 400000 in
theorem Marks_any (g m s : Nat) (l : List Int) (w : World) (hg : GateAt w g m l s) (h6 : l.length ≤ 6) :
    Calls Try.prog 9 #[.pointer (some ⟨g, 0, none⟩)] w fun e w' => ∃ v, e = .returned v ∧ w'.ownsRow w.heap.size 2 1 v l.length (l.map (Value.int .i64)) ∧ Tch None_ w w' := by
  have c0 := hg.1.cell 0
  simp at c0
  go_enter Try.func9, Try.ntmps9
  go_wp2_with fail
  refine (clone_any l.length l.length w.heap.size ⟨m, 0, none⟩ l w (Nat.le_refl _) ⟨by simp, fun _ => ⟨_, rfl, hg.2.lt, fun j u hu => hg.2.reads j u (by simpa using hu)⟩⟩ (by omega)).mono ?_
  rintro e w1 ⟨v, rfl, hown, ht⟩
  go_wp2_with fail
  go_ret
  exact ⟨v, rfl, hown, ht⟩

/-- New's errors. -/
def newB (p s : Int) : Bool := decide (2 ≤ p ∧ p ≤ 6 ∧ 0 ≤ s ∧ s < p)
theorem newB_yes {p s : Int} (h : newB p s = true) : 2 ≤ p ∧ p ≤ 6 ∧ 0 ≤ s ∧ s < p := by simpa [newB] using h
theorem newB_no {p s : Int} (h : newB p s = false) : p < 2 ∨ 6 < p ∨ s < 0 ∨ p ≤ s := by simp [newB] at h; omega

theorem newB_no' {p s : Int} (h : newB p s = false) : ¬ 2 ≤ p ∨ (2 ≤ p ∧ ¬ p ≤ 6) ∨ (2 ≤ p ∧ p ≤ 6 ∧ ¬ 0 ≤ s) ∨ (2 ≤ p ∧ p ≤ 6 ∧ 0 ≤ s ∧ ¬ s < p) := by
  have := newB_no h
  omega

set_option maxHeartbeats 400000 in
theorem New_no (p s : Int) (w : World) (h : newB p s = false) :
    Calls Try.prog 13 #[.int .i64 p, .int .i64 s] w fun e w' => e = .returned (.tuple #[.pointer none, .int .i64 1]) ∧ w = w' := by
  rcases newB_no h with h | h | h | h
  · go_enter Try.func13, Try.ntmps13
    go_wp2
    go_ret2
    exact ⟨rfl, rfl⟩
  · have h1 : ¬ p < 2 := by omega
    go_enter Try.func13, Try.ntmps13
    go_wp2
    go_ret2
    exact ⟨rfl, rfl⟩
  · by_cases h1 : p < 2 
    · go_enter Try.func13, Try.ntmps13
      go_wp2
      go_ret2
      exact ⟨rfl, rfl⟩
    · by_cases h2 : 6 < p
      · go_enter Try.func13, Try.ntmps13
        go_wp2
        go_ret2
        exact ⟨rfl, rfl⟩
      · go_enter Try.func13, Try.ntmps13
        go_wp2
        go_ret2
        exact ⟨rfl, rfl⟩
  · by_cases h1 : p < 2 
    · go_enter Try.func13, Try.ntmps13
      go_wp2
      go_ret2
      exact ⟨rfl, rfl⟩
    · by_cases h2 : 6 < p
      · go_enter Try.func13, Try.ntmps13
        go_wp2
        go_ret2
        exact ⟨rfl, rfl⟩
      · by_cases h3 : s < 0
        · go_enter Try.func13, Try.ntmps13
          go_wp2
          go_ret2
          exact ⟨rfl, rfl⟩
        · go_enter Try.func13, Try.ntmps13
          go_wp2
          go_ret2
          exact ⟨rfl, rfl⟩

set_option maxHeartbeats 400000 in
theorem New_yes (p s : Nat) (w : World) (h2 : 2 ≤ p) (h6 : p ≤ 6) (hs : s < p) :
    Calls Try.prog 13 #[.int .i64 p, .int .i64 s] w fun e w' => ∃ g m, e = .returned (.tuple #[.pointer (some ⟨g, 0, none⟩), .int .i64 0]) ∧ GateAt w' g m (List.replicate p 0) s ∧ w.heap.size ≤ g ∧ w.heap.size ≤ m ∧ Tch None_ w w' := by
  have e1 : ¬ (p : Int) < 2 := by omega
  have e2 : ¬ (6 : Int) < p := by omega
  have e3 : ¬ (s : Int) < 0 := by omega
  have e4 : ¬ (p : Int) ≤ s := by omega
  obtain ⟨i0, hi, hz0, hz1, hz2⟩ := info_parts info2
  go_enter Try.func13, Try.ntmps13
  go_wp2_with (at_make; refine wpList_make_full _ rfl (.tmp 21) (.tmp 21) 33 rfl w.heap.size 2 i0 (.int .i64 0) 1 Try.underlying33 hi hz0 hz1 .i64 .i64 p p p rfl rfl rfl rfl (by rw [hz2]; omega) (by simp only [maxLen]; omega) (Nat.le_refl _) ?_)
  intro w1 hown hg
  go_wp2_with fail
  go_ret2
  have ht : Tch None_ w w1 := (Tch.refl _ _).grown hg (by simp)
  obtain ⟨g', cs, hA, _, _, _, hcs, htk, hb⟩ := Blk.of_own hown (by omega)
  injection hA with hA
  injection hA with hA _ _
  subst hA
  have e : cs = ((List.replicate p (0 : Int)).map (Value.int .i64)).toArray := by
    apply Array.toList_inj.1
    rw [Nat.mul_one] at htk hcs
    rw [← Array.length_toList] at hcs
    rw [← hcs, List.take_length] at htk
    rw [htk, hcs, madeCells_one]
    simp
  refine ⟨w1.heap.size, w.heap.size, rfl, ⟨?_, ?_⟩, ht.size, Nat.le_refl _, ht.alloc _⟩
  · simpa using Blk.new w1 51 _
  · rw [← e]; exact hb.alloc _

/-- Is a mark taken? -/
def markB (n s : Nat) (p f : Int) : Bool := decide (0 ≤ p ∧ p < n ∧ p ≠ s ∧ 0 ≤ f ∧ f ≤ 1099511627776)
theorem markB_yes {n s : Nat} {p f : Int} (h : markB n s p f = true) : 0 ≤ p ∧ p < n ∧ p ≠ s ∧ 0 ≤ f ∧ f ≤ 1099511627776 := by simpa [markB] using h
theorem markB_no {n s : Nat} {p f : Int} (h : markB n s p f = false) :
    p < 0 ∨ (0 ≤ p ∧ (n : Int) ≤ p) ∨ (0 ≤ p ∧ p < n ∧ p = s) ∨ (0 ≤ p ∧ p < n ∧ p ≠ s ∧ f < 0) ∨ (0 ≤ p ∧ p < n ∧ p ≠ s ∧ 0 ≤ f ∧ 1099511627776 < f) := by
  have h' : ¬ (0 ≤ p ∧ p < n ∧ p ≠ s ∧ 0 ≤ f ∧ f ≤ 1099511627776) := by simpa [markB] using h
  omega

set_option maxHeartbeats 400000 in
theorem Mark_no (g m s : Nat) (p f : Int) (l : List Int) (w : World) (hg : GateAt w g m l s) (_ : l.length ≤ 6) (h : markB l.length s p f = false) :
    Calls Try.prog 14 #[.pointer (some ⟨g, 0, none⟩), .int .i64 p, .int .i64 f] w fun e w' => e = .returned (.int .i64 210) ∧ w = w' := by
  have c0 := hg.1.cell 0
  have c1 := hg.1.cell 1
  simp at c0 c1
  rcases markB_no h with h | ⟨h1, h⟩ | ⟨h1, h2, h⟩ | ⟨h1, h2, h3, h⟩ | ⟨h1, h2, h3, h4, h⟩
  all_goals
    go_enter Try.func14, Try.ntmps14
    go_wp2_with fail
  all_goals go_ret
  all_goals exact ⟨rfl, rfl⟩

theorem gate_set {g m s : Nat} {l : List Int} {w : World} (hg : GateAt w g m l s) (hgm : g ≠ m) (p : Nat) (y : Int) :
    GateAt (w.setCell ⟨m, p, none⟩ (.int .i64 y)).drew g m (l.set p y) s := by
  refine ⟨?_, ?_⟩
  · simpa using (hg.1.far (p := ⟨m, p, none⟩) hgm (.int .i64 y)).drew
  · have := (hg.2.set_ p (.int .i64 y)).drew
    simpa [List.map_set] using this

def markL (l : List Int) (p : Nat) (f : Int) : List Int := l.set p (max (l.getD p 0) f)

set_option maxHeartbeats 400000 in
theorem Mark_yes (g m s p : Nat) (f : Int) (l : List Int) (w : World) (hg : GateAt w g m l s) (_ : l.length ≤ 6) (h1 : p < l.length) (h2 : p ≠ s) (h3 : 0 ≤ f) (h4 : f ≤ 1099511627776) :
    Calls Try.prog 14 #[.pointer (some ⟨g, 0, none⟩), .int .i64 p, .int .i64 f] w fun e w' => e = .returned (.int .i64 0) ∧ GateAt w' g m (markL l p f) s ∧ Tch (fun k => k = m) w w' := by
  have c0 := hg.1.cell 0
  have c1 := hg.1.cell 1
  have c2 : w.cell? ⟨m, p, none⟩ = some (.int .i64 (l.getD p 0)) := by rw [hg.2.cell]; simp [List.getD, h1]
  have fr := hg.2.frozen p
  have hgm := hg.1.ne_ hg.2 (by decide)
  simp at c0 c1
  have d1 : ¬ (p : Int) < 0 := by omega
  have d2 : ¬ l.length ≤ p := by omega
  have d3 : ((p : Int) == (s : Int)) = false := by simp; omega
  have d4 : ¬ f < 0 := by omega
  have d5 : ¬ 1099511627776 < f := by omega
  have d6 : (p : Int) < l.length := by omega
  have HM : Hid (markL l p f = l.set p (max (l.getD p 0) f)) := rfl
  generalize l.getD p 0 = x at c2 HM
  go_enter Try.func14, Try.ntmps14
  go_wp2_with fail
  go_region
  all_goals go_wp2_with fail
  all_goals go_ret
  all_goals refine ⟨rfl, ?_, ((Tch.refl (fun k => k = m) w).setCell (p := ⟨m, p, none⟩) (.inl rfl) _).drew⟩
  all_goals rw [HM.out]
  all_goals first
    | (rw [show max x f = f from by omega]; exact gate_set hg hgm p f)
    | (rw [show max x f = x from by omega]; exact gate_set hg hgm p x)

theorem wf_i64_bounds {n : Int} (h : (Lit.int .i64 n).wf = true) : -9223372036854775808 ≤ n ∧ n ≤ 9223372036854775807 := by
  simpa [Lit.wf, IntKind.min, IntKind.max, IntKind.signed, IntKind.bits] using h

/-- Is a plan told? -/
def planB (lead hind lag : Int) : Bool := decide (0 ≤ hind ∧ hind ≤ lead ∧ lead ≤ 1099511627776 ∧ lead - hind ≤ 48 ∧ 1 ≤ lag ∧ lag < 48)
def planTo (lead hind lag n : Int) : Int := max hind (min (min (lead + 1 - lag) n) (hind + 4))

set_option maxHeartbeats 400000 in
theorem Plan_yes (g m s : Nat) (l : List Int) (lead hind lag : Int) (w : World) (hg : GateAt w g m l s) (h2 : 2 ≤ l.length) (h6 : l.length ≤ 6) (hs : s < l.length)
    (a1 : 0 ≤ hind) (a2 : hind ≤ lead) (a3 : lead ≤ 1099511627776) (a4 : lead - hind ≤ 48) (a5 : 1 ≤ lag) (a6 : lag < 48) :
    Calls Try.prog 7 #[.pointer (some ⟨g, 0, none⟩), .int .i64 lead, .int .i64 hind, .int .i64 lag] w fun e w' =>
      e = .returned (.tuple #[.agg #[.int .i64 (planTo lead hind lag (leastL l s)), .bool (lead - planTo lead hind lag (leastL l s) == 48)], .int .i64 0]) ∧ Tch None_ w w' := by
  have d1 : ¬ hind < 0 := by omega
  have d2 : ¬ lead < hind := by omega
  have d3 : ¬ 1099511627776 < lead := by omega
  have d4 : ¬ 48 < lead - hind := by omega
  have d5 : ¬ lag < 1 := by omega
  have d6 : ¬ 48 ≤ lag := by omega
  obtain ⟨n, hn⟩ : ∃ n, leastL l s = n := ⟨_, rfl⟩
  obtain ⟨pt, hpt⟩ : ∃ pt, planTo lead hind lag n = pt := ⟨_, rfl⟩
  rw [hn, hpt]
  have HP : Hid (pt = max hind (min (min (lead + 1 - lag) n) (hind + 4))) := by rw [← hpt]; rfl
  have HN := Lib.hid hn
  clear hn hpt
  go_enter Try.func7, Try.ntmps7
  go_wp2_with fail
  refine (Least_any g m s l _ ⟨hg.1.alloc _, hg.2.alloc _⟩ h2 h6 hs).mono ?_
  rintro e w1 ⟨rfl, ht⟩
  have hb := (Blk.new w 27 #[.int .i64 0, .bool false]).keep ht
  have ht1 : Tch None_ w w1 := ((Tch.refl _ _).alloc _).then ht
  have hlt := hb.lt
  clear ht hg
  rw [HN.out]
  go_wp2_with fail
  refine (least_any (lead + 1 - lag) (some ⟨w1.heap.size, 0, none⟩) 2 2 (w1.heap.size + 1) [n, hind + 4] _ ⟨rfl, fun _ => ⟨_, rfl, by simp, fun j u hu => ?_⟩⟩ (by omega)).mono ?_
  · rw [add_plain, cell_of_row _ _ _ _ _ (0, 0) (heap_alloc_new w1 _)]
    simpa using hu
  rintro e w2 ⟨rfl, rfl⟩
  have q0 := hb.cell 0
  have q1 := hb.cell 1
  have z0 := hb.frozen 0
  have z1 := hb.frozen 1
  simp at q0 q1
  have e2 : minL (lead + 1 - lag) [n, hind + 4] = min (min (lead + 1 - lag) n) (hind + 4) := rfl
  rw [e2]
  obtain ⟨y, hy⟩ : ∃ y, min (min (lead + 1 - lag) n) (hind + 4) = y := ⟨_, rfl⟩
  rw [hy]
  have HQ : Hid (pt = max hind y) := by rw [← hy]; exact HP.out
  have hy4 : y ≤ hind + 4 := by omega
  clear e2 HP hy
  go_wp2_with fail
  · obtain rfl : pt = y := by rw [HQ.out]; omega
    exact bodyPost_ret (v := .tuple #[.agg #[.int .i64 pt, .bool (lead - pt == 48)], .int .i64 0]) (by simp [results, Try.results7, go_sem, hlt, q0, q1]) rfl
      ⟨rfl, ((ht1.setCell (p := ⟨w.heap.size, 0, none⟩) (.inr (Nat.le_refl _)) _).setCell (p := ⟨w.heap.size, 1, none⟩) (.inr (Nat.le_refl _)) _).alloc _⟩
  · obtain rfl : pt = hind := by rw [HQ.out]; omega
    exact bodyPost_ret (v := .tuple #[.agg #[.int .i64 pt, .bool (lead - pt == 48)], .int .i64 0]) (by simp [results, Try.results7, go_sem, hlt, q0, q1]) rfl
      ⟨rfl, ((ht1.setCell (p := ⟨w.heap.size, 0, none⟩) (.inr (Nat.le_refl _)) _).setCell (p := ⟨w.heap.size, 1, none⟩) (.inr (Nat.le_refl _)) _).alloc _⟩
end Go.Proofs.Ytcineclpmacfhaa
