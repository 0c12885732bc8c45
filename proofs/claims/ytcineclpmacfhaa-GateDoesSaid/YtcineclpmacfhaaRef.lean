/-
  No statement is proved here: what pick and the reference's functions come to (walks of the code).
-/
import Derived.Test.YtcineclpmacfhaaLeast
namespace Go.Proofs.Ytcineclpmacfhaa
open Go.RowKit

def pickI (c n : Int) : Int := (if c < 0 then -(c + 1) else c) % n
theorem pickI_bd (c n : Int) (h : 0 < n) : 0 ≤ pickI c n ∧ pickI c n < n := by unfold pickI; exact ⟨Int.emod_nonneg _ (by omega), Int.emod_lt_of_pos _ h⟩
set_option maxHeartbeats 400000 in
theorem pick_any (c n : Int) (w : World) (h1 : -9223372036854775808 ≤ c) (h2 : c ≤ 9223372036854775807) (h3 : 0 < n) (h4 : n ≤ 9223372036854775807) :
    Calls Try.prog 11 #[.int .i64 c, .int .i64 n] w fun e w' => e = .returned (.int .i64 (pickI c n)) ∧ w = w' := by
  by_cases hc : c < 0
  · have H : Hid (pickI c n = (-(c + 1)) % n) := by unfold pickI; rw [if_pos hc]; exact rfl
    go_enter Try.func11, Try.ntmps11
    go_wp2_with fail
    go_ret
    exact ⟨ret_int (by rw [H.out, ← Int.neg_tmod, Int.tmod_eq_emod_of_nonneg (by omega)]), rfl⟩
  · have H : Hid (pickI c n = c % n) := by unfold pickI; rw [if_neg hc]; exact rfl
    go_enter Try.func11, Try.ntmps11
    go_wp2_with fail
    go_ret
    exact ⟨ret_int (by rw [H.out]), rfl⟩

theorem newB_ref {p s : Int} (h : newB p s = false) : p < 2 ∨ (¬ p < 2 ∧ 6 < p) ∨ (¬ p < 2 ∧ ¬ 6 < p ∧ s < 0) ∨ (¬ p < 2 ∧ ¬ 6 < p ∧ ¬ s < 0 ∧ p ≤ s) := by
  have := newB_no h
  omega

/-- The reference's gate in memory. -/
def RGateAt (w : World) (g m : Nat) (l : List Int) (s : Nat) : Prop :=
  Blk w g 60 #[.int .i64 s, .slice (some ⟨m, 0, none⟩) l.length l.length] ∧ Blk w m 2 (l.map (Value.int .i64)).toArray

set_option maxHeartbeats 400000 in
theorem RNew_no (p s : Int) (w : World) (h : newB p s = false) :
    Calls Try.prog 18 #[.int .i64 p, .int .i64 s] w fun e w' => e = .returned (.tuple #[.pointer none, .int .i64 1]) ∧ w = w' := by
  rcases newB_ref h with d1 | ⟨d1, d2⟩ | ⟨d1, d2, d3⟩ | ⟨d1, d2, d3, d4⟩
  all_goals
    go_enter Try.func18, Try.ntmps18
    go_wp2_with fail
    go_ret2
    exact ⟨rfl, rfl⟩

theorem own_replicate {w : World} {B g n : Nat} (h : w.ownsRow B 2 1 (.slice (some ⟨g, 0, none⟩) n n) n (madeCells #[.int .i64 0] n).toList) (hn : 0 < n) :
    Blk w g 2 ((List.replicate n (0 : Int)).map (Value.int .i64)).toArray := by
  obtain ⟨g', cs, hA, _, _, _, hcs, htk, hb⟩ := Blk.of_own h hn
  injection hA with hA
  injection hA with hA _ _
  subst hA
  have e : cs = ((List.replicate n (0 : Int)).map (Value.int .i64)).toArray := by
    apply Array.toList_inj.1
    rw [Nat.mul_one] at htk hcs
    rw [← Array.length_toList] at hcs
    rw [← hcs, List.take_length] at htk
    rw [htk, hcs, madeCells_one]
    simp
  rw [← e]; exact hb

set_option maxHeartbeats 400000 in
theorem RNew_yes (p s : Nat) (w : World) (h2 : 2 ≤ p) (h6 : p ≤ 6) (hs : s < p) :
    Calls Try.prog 18 #[.int .i64 p, .int .i64 s] w fun e w' => ∃ g m, e = .returned (.tuple #[.pointer (some ⟨g, 0, none⟩), .int .i64 0]) ∧ RGateAt w' g m (List.replicate p 0) s ∧ w.heap.size ≤ g ∧ w.heap.size ≤ m ∧ Tch None_ w w' := by
  have e1 : ¬ (p : Int) < 2 := by omega
  have e2 : ¬ (6 : Int) < p := by omega
  have e3 : ¬ (s : Int) < 0 := by omega
  have e4 : ¬ (p : Int) ≤ s := by omega
  obtain ⟨i0, hi, hz0, hz1, hz2⟩ := info_parts info2
  go_enter Try.func18, Try.ntmps18
  go_wp2_with (at_make; refine wpList_make_full _ rfl (.tmp 22) (.tmp 22) 33 rfl w.heap.size 2 i0 (.int .i64 0) 1 Try.underlying33 hi hz0 hz1 .i64 .i64 p p p rfl rfl rfl rfl (by rw [hz2]; omega) (by simp only [maxLen]; omega) (Nat.le_refl _) ?_)
  intro w1 hown hg
  go_wp2_with fail
  go_ret2
  have ht : Tch None_ w w1 := (Tch.refl _ _).grown hg (by simp)
  refine ⟨w1.heap.size, w.heap.size, rfl, ⟨?_, ?_⟩, ht.size, Nat.le_refl _, ht.alloc _⟩
  · simpa using Blk.new w1 60 _
  · exact (own_replicate hown (by omega)).alloc _

set_option maxHeartbeats 400000 in
theorem RMark_no (g m s : Nat) (p f : Int) (l : List Int) (w : World) (hg : RGateAt w g m l s) (_ : l.length ≤ 6) (h : markB l.length s p f = false) :
    Calls Try.prog 19 #[.pointer (some ⟨g, 0, none⟩), .int .i64 p, .int .i64 f] w fun e w' => e = .returned (.int .i64 210) ∧ w = w' := by
  have c0 := hg.1.cell 0
  have c1 := hg.1.cell 1
  simp at c0 c1
  rcases markB_no h with h | ⟨h1, h⟩ | ⟨h1, h2, h⟩ | ⟨h1, h2, h3, h⟩ | ⟨h1, h2, h3, h4, h⟩
  all_goals
    go_enter Try.func19, Try.ntmps19
    go_wp2_with fail
  all_goals go_ret
  all_goals exact ⟨rfl, rfl⟩

theorem rgate_set {g m s : Nat} {l : List Int} {w : World} (hg : RGateAt w g m l s) (hgm : g ≠ m) (p : Nat) (y : Int) :
    RGateAt (w.setCell ⟨m, p, none⟩ (.int .i64 y)) g m (l.set p y) s := by
  refine ⟨?_, ?_⟩
  · simpa using (hg.1.far (p := ⟨m, p, none⟩) hgm (.int .i64 y))
  · have := (hg.2.set_ p (.int .i64 y))
    simpa [List.map_set] using this

set_option maxHeartbeats 400000 in
theorem RMark_yes (g m s p : Nat) (f : Int) (l : List Int) (w : World) (hg : RGateAt w g m l s) (_ : l.length ≤ 6) (h1 : p < l.length) (h2 : p ≠ s) (h3 : 0 ≤ f) (h4 : f ≤ 1099511627776) :
    Calls Try.prog 19 #[.pointer (some ⟨g, 0, none⟩), .int .i64 p, .int .i64 f] w fun e w' => e = .returned (.int .i64 0) ∧ RGateAt w' g m (markL l p f) s ∧ Tch (fun k => k = m) w w' := by
  have c0 := hg.1.cell 0
  have c1 := hg.1.cell 1
  have c2 : w.cell? ⟨m, p, none⟩ = some (.int .i64 (l.getD p 0)) := by rw [hg.2.cell]; simp [List.getD, h1]
  have fr := hg.2.frozen p
  have hgm := hg.1.ne_ hg.2 (by decide)
  simp at c0 c1
  have d1 : ¬ (p : Int) < 0 := by omega
  have d2 : ¬ l.length ≤ p := by omega
  have d3 : ((p : Int) == (s : Int)) = false := by simp; omega
  have d4 : ¬ f < 0 := by omega
  have d5 : ¬ 1099511627776 < f := by omega
  have d6 : (p : Int) < l.length := by omega
  have HM : Hid (markL l p f = l.set p (max (l.getD p 0) f)) := rfl
  have HX : Hid (l.set p (l.getD p 0) = l) := by
    show l.set p (l.getD p 0) = l
    apply List.ext_getElem? 
    intro i
    by_cases e : p = i
    · subst e; rw [List.getElem?_set_self h1]; simp [List.getD, h1]
    · rw [List.getElem?_set_ne e]
  generalize l.getD p 0 = x at c2 HM HX
  by_cases hxf : x < f
  · go_enter Try.func19, Try.ntmps19
    go_wp2_with fail
    go_ret
    refine ⟨rfl, ?_, ((Tch.refl (fun k => k = m) w).setCell (p := ⟨m, p, none⟩) (.inl rfl) _)⟩
    rw [HM.out, show max x f = f from by omega]
    exact rgate_set hg hgm p f
  · go_enter Try.func19, Try.ntmps19
    go_wp2_with fail
    go_ret
    refine ⟨rfl, ?_, Tch.refl _ _⟩
    rw [HM.out, show max x f = x from by omega, HX.out]
    exact hg

/-! The reference's least. -/
def refMin (s : Nat) (l : List Int) (k : Nat) : Int := (List.range k).foldl (fun n i => if decide (i ≠ s ∧ l.getD i 0 < n) then l.getD i 0 else n) 1099511627776
theorem refMin_succ (s : Nat) (l : List Int) (k : Nat) : refMin s l (k + 1) = if decide (k ≠ s ∧ l.getD k 0 < refMin s l k) then l.getD k 0 else refMin s l k := by
  simp [refMin, List.range_succ]
theorem refMin_facts (s : Nat) (l : List Int) (k : Nat) : refMin s l k ≤ 1099511627776 ∧ (∀ i, i < k → i ≠ s → refMin s l k ≤ l.getD i 0) ∧ (refMin s l k = 1099511627776 ∨ ∃ i, i < k ∧ i ≠ s ∧ l.getD i 0 = refMin s l k) := by
  induction k with
  | zero => simp [refMin]
  | succ k ih =>
    obtain ⟨h1, h2, h3⟩ := ih
    rw [refMin_succ]
    by_cases hc : k ≠ s ∧ l.getD k 0 < refMin s l k
    · rw [if_pos (by simpa using hc)]
      refine ⟨by omega, fun i hi hne => ?_, .inr ⟨k, by omega, hc.1, rfl⟩⟩
      by_cases e : i = k
      · subst e; omega
      · have := h2 i (by omega) hne; omega
    · rw [if_neg (by simpa using hc)]
      refine ⟨h1, fun i hi hne => ?_, ?_⟩
      · by_cases e : i = k
        · subst e; have : ¬ l.getD i 0 < refMin s l i := fun h => hc ⟨hne, h⟩; omega
        · exact h2 i (by omega) hne
      · rcases h3 with h | ⟨i, h, h', h''⟩
        · exact .inl h
        · exact .inr ⟨i, by omega, h', h''⟩
theorem refMin_least (s : Nat) (l : List Int) (h2 : 2 ≤ l.length) (hs : s < l.length) (hb : ∀ y ∈ l, y ≤ 1099511627776) : refMin s l l.length = leastL l s := by
  obtain ⟨a1, a2, a3⟩ := refMin_facts s l l.length
  obtain ⟨b1, i, hi, hne, he⟩ := leastL_facts l s h2 hs
  have g : ∀ i (h : i < l.length), l.getD i 0 = l[i] := fun i h => by simp [List.getD, h]
  have c1 := a2 i hi hne
  rw [g i hi, he] at c1
  rcases a3 with h | ⟨j, hj, hjs, h⟩
  · have := hb l[i] (List.getElem_mem hi)
    omega
  · have := b1 j hj hjs
    rw [g j hj] at h
    omega

theorem RLeast_any (g m s : Nat) (l : List Int) (w : World) (hg : RGateAt w g m l s) (h2 : 2 ≤ l.length) (h6 : l.length ≤ 6) (hs : s < l.length) (hb : ∀ y ∈ l, y ≤ 1099511627776) :
    Calls Try.prog 22 #[.pointer (some ⟨g, 0, none⟩)] w fun e w' => e = .returned (.int .i64 (leastL l s)) ∧ w = w' := by
  rw [← refMin_least s l h2 hs hb]
  have c0 := hg.1.cell 0
  have c1 := hg.1.cell 1
  simp at c0 c1
  have HC : Hid (∀ i, i < l.length → w.cell? ⟨m, i, none⟩ = some (.int .i64 (l.getD i 0))) := by
    intro i hi
    rw [hg.2.cell]; simp [List.getD, hi]
  go_enter Try.func22, Try.ntmps22
  go_wp2_with fail
  go_loop [3, 4] (fun t i => ∃ k : Nat, k ≤ l.length ∧ i = .int .i64 k ∧ t = .int .i64 (refMin s l k)) (fun _ i => l.length - (intOf i).toNat)
  case atStart => exact ⟨0, by omega, rfl, by simp [refMin]⟩
  case round =>
    obtain ⟨k, hk, rfl, rfl⟩ := hrel
    by_cases hlt : k < l.length
    · have c2 := HC.out k hlt
      have H2 := Lib.hid (refMin_succ s l k)
      generalize l.getD k 0 = x at c2 H2
      generalize refMin s l k = y at H2 ⊢
      by_cases hks : k = s
      · have e1 : ((k : Int) != (s : Int)) = false := by simp [hks]
        have H3 : Hid (refMin s l (k + 1) = y) := H2.out.trans (by simp [hks])
        clear hks
        go_wp2_with fail
        go_round
        case rel => exact ⟨k + 1, by omega, by go_num, by rw [H3.out]⟩
        case measure => simp [intOf]; omega
      · have e1 : ((k : Int) != (s : Int)) = true := by simp; omega
        by_cases hxy : x < y
        · have H3 : Hid (refMin s l (k + 1) = x) := H2.out.trans (by simp [hks, hxy])
          clear hks
          go_wp2_with fail
          go_round
          case rel => exact ⟨k + 1, by omega, by go_num, by rw [H3.out]⟩
          case measure => simp [intOf]; omega
        · have H3 : Hid (refMin s l (k + 1) = y) := H2.out.trans (by simp [hxy])
          clear hks
          go_wp2_with fail
          go_round
          case rel => exact ⟨k + 1, by omega, by go_num, by rw [H3.out]⟩
          case measure => simp [intOf]; omega
    · go_wp2_with fail
      go_ret
      obtain rfl : k = l.length := by omega
      exact ⟨rfl, rfl⟩

theorem Same_any (n c1 c2 B : Nat) (A1 A2 : Option Addr) (l : List Int) (w : World) (hr1 : Reads w B 1 A1 n (l.map (Value.int .i64))) (hr2 : Reads w B 1 A2 n (l.map (Value.int .i64))) (hn : n ≤ 1000) :
    Calls Try.prog 20 #[.slice A1 n c1, .slice A2 n c2] w fun e w' => e = .returned (.bool true) ∧ Tch None_ w w' := by
  have hl : l.length = n := by simpa using hr1.1
  have HC1 : Hid (∀ i, i < n → ∃ ad, A1 = some ad ∧ w.cell? (ad.add i) = some (.int .i64 (l.getD i 0))) := by
    intro i hi
    obtain ⟨ad, h1, _, h2⟩ := hr1.2 (by omega)
    exact ⟨ad, h1, h2 i _ (by simp [List.getElem?_map, List.getD, List.getElem?_eq_getElem (show i < l.length by omega)])⟩
  have HC2 : Hid (∀ i, i < n → ∃ ad, A2 = some ad ∧ w.cell? (ad.add i) = some (.int .i64 (l.getD i 0))) := by
    intro i hi
    obtain ⟨ad, h1, _, h2⟩ := hr2.2 (by omega)
    exact ⟨ad, h1, h2 i _ (by simp [List.getElem?_map, List.getD, List.getElem?_eq_getElem (show i < l.length by omega)])⟩
  clear hr1 hr2
  go_enter Try.func20, Try.ntmps20
  go_wp2_with fail
  go_loopw [5] (fun i wr => ∃ k : Nat, k ≤ n ∧ i = .int .i64 k ∧ ∃ q, wr = w.drewN q) (fun i _ => n - (intOf i).toNat)
  case atStart => exact ⟨0, by omega, rfl, 0, rfl⟩
  case round =>
    obtain ⟨k, hk, rfl, q, rfl⟩ := hrel
    by_cases hlt : k < n
    · obtain ⟨a1, rfl, d1⟩ := HC1.out k hlt
      obtain ⟨a2, rfl, d2⟩ := HC2.out k hlt
      generalize l.getD k 0 = x at d1 d2
      have dx : (x != x) = false := by simp
      go_wp2_with fail
      go_quiet (fail)
      go_wp2_with fail
      go_roundw
      case rel => exact ⟨k + 1, by omega, by go_num, _, rfl⟩
      case measure => simp [intOf]; omega
    · go_wp2_with fail
      go_ret
      exact ⟨rfl, (Tch.refl _ _).drewN _⟩

theorem planB_no {lead hind lag : Int} (h : planB lead hind lag = false) : hind < 0 ∨ (¬ hind < 0 ∧ lead < hind) ∨ (¬ hind < 0 ∧ ¬ lead < hind ∧ 1099511627776 < lead) ∨ (¬ hind < 0 ∧ ¬ lead < hind ∧ ¬ 1099511627776 < lead ∧ 48 < lead - hind) ∨
    (¬ hind < 0 ∧ ¬ lead < hind ∧ ¬ 1099511627776 < lead ∧ ¬ 48 < lead - hind ∧ lag < 1) ∨ (¬ hind < 0 ∧ ¬ lead < hind ∧ ¬ 1099511627776 < lead ∧ ¬ 48 < lead - hind ∧ ¬ lag < 1 ∧ 48 ≤ lag) := by
  simp only [planB, decide_eq_false_iff_not] at h
  omega
theorem planB_yes {lead hind lag : Int} (h : planB lead hind lag = true) : 0 ≤ hind ∧ hind ≤ lead ∧ lead ≤ 1099511627776 ∧ lead - hind ≤ 48 ∧ 1 ≤ lag ∧ lag < 48 := by simpa [planB] using h

set_option maxHeartbeats 1000000 in
theorem Plan_no (g : Nat) (lead hind lag : Int) (w : World) (h : planB lead hind lag = false) :
    Calls Try.prog 7 #[.pointer (some ⟨g, 0, none⟩), .int .i64 lead, .int .i64 hind, .int .i64 lag] w fun e w' =>
      e = .returned (.tuple #[.agg #[.int .i64 0, .bool false], .int .i64 1]) ∧ Tch None_ w w' := by
  rcases planB_no h with d1 | ⟨d1, d2⟩ | ⟨d1, d2, d3⟩ | ⟨d1, d2, d3, d4⟩ | ⟨d1, d2, d3, d4, d5⟩ | ⟨d1, d2, d3, d4, d5, d6⟩
  all_goals
    go_enter Try.func7, Try.ntmps7
    go_wp2_with fail
    exact bodyPost_ret (v := .tuple #[.agg #[.int .i64 0, .bool false], .int .i64 1]) (by simp [results, Try.results7, go_sem]) rfl ⟨rfl, (Tch.refl _ _).alloc _⟩

set_option maxHeartbeats 1000000 in
theorem RPlan_no (g : Nat) (lead hind lag : Int) (w : World) (h : planB lead hind lag = false) :
    Calls Try.prog 21 #[.pointer (some ⟨g, 0, none⟩), .int .i64 lead, .int .i64 hind, .int .i64 lag] w fun e w' =>
      e = .returned (.tuple #[.agg #[.int .i64 0, .bool false], .int .i64 1]) ∧ Tch None_ w w' := by
  rcases planB_no h with d1 | ⟨d1, d2⟩ | ⟨d1, d2, d3⟩ | ⟨d1, d2, d3, d4⟩ | ⟨d1, d2, d3, d4, d5⟩ | ⟨d1, d2, d3, d4, d5, d6⟩
  all_goals try (have d7 : 47 < lag := by omega)
  all_goals try (have d8 : ¬ 47 < lag := by omega)
  all_goals
    go_enter Try.func21, Try.ntmps21
    go_wp2_with fail
    exact bodyPost_ret (v := .tuple #[.agg #[.int .i64 0, .bool false], .int .i64 1]) (by simp [results, Try.results21, go_sem]) rfl ⟨rfl, (Tch.refl _ _).alloc _⟩

set_option maxHeartbeats 1000000 in
theorem RPlan_yes (g m s : Nat) (l : List Int) (lead hind lag : Int) (w : World) (hg : RGateAt w g m l s) (h2 : 2 ≤ l.length) (h6 : l.length ≤ 6) (hs : s < l.length) (hb : ∀ y ∈ l, y ≤ 1099511627776)
    (a1 : 0 ≤ hind) (a2 : hind ≤ lead) (a3 : lead ≤ 1099511627776) (a4 : lead - hind ≤ 48) (a5 : 1 ≤ lag) (a6 : lag < 48) :
    Calls Try.prog 21 #[.pointer (some ⟨g, 0, none⟩), .int .i64 lead, .int .i64 hind, .int .i64 lag] w fun e w' =>
      e = .returned (.tuple #[.agg #[.int .i64 (planTo lead hind lag (leastL l s)), .bool (lead - planTo lead hind lag (leastL l s) == 48)], .int .i64 0]) ∧ Tch None_ w w' := by
  have d1 : ¬ hind < 0 := by omega
  have d2 : ¬ lead < hind := by omega
  have d3 : ¬ 1099511627776 < lead := by omega
  have d4 : ¬ 48 < lead - hind := by omega
  have d5 : ¬ lag < 1 := by omega
  have d6 : ¬ 47 < lag := by omega
  have HR := fun W (hg : RGateAt W g m l s) => RLeast_any g m s l W hg h2 h6 hs hb
  generalize leastL l s = n at *
  obtain ⟨pt, hpt⟩ : ∃ pt, planTo lead hind lag n = pt := ⟨_, rfl⟩
  rw [hpt]
  have HP : Hid (pt = max hind (min (min (lead + 1 - lag) n) (hind + 4))) := by rw [← hpt]; rfl
  have HR := Lib.hid HR
  clear hpt
  by_cases e1 : n < lead + 1 - lag
  · by_cases e2 : hind + 4 < n
    · have e3 : ¬ hind + 4 < hind := by omega
      obtain rfl : pt = hind + 4 := by rw [HP.out]; omega
      go_enter Try.func21, Try.ntmps21
      go_wp2_with fail
      refine (HR.out _ ⟨hg.1.alloc _, hg.2.alloc _⟩).mono ?_
      rintro e w1 ⟨rfl, rfl⟩
      go_wp2_with fail
      exact bodyPost_ret (v := .tuple #[.agg #[.int .i64 (hind + 4), .bool (lead - (hind + 4) == 48)], .int .i64 0]) (by simp [results, Try.results21, go_sem]) rfl ⟨rfl, (Tch.refl _ _).alloc _⟩
    · by_cases e3 : n < hind
      · obtain rfl : pt = hind := by rw [HP.out]; omega
        go_enter Try.func21, Try.ntmps21
        go_wp2_with fail
        refine (HR.out _ ⟨hg.1.alloc _, hg.2.alloc _⟩).mono ?_
        rintro e w1 ⟨rfl, rfl⟩
        go_wp2_with fail
        exact bodyPost_ret (v := .tuple #[.agg #[.int .i64 pt, .bool (lead - pt == 48)], .int .i64 0]) (by simp [results, Try.results21, go_sem]) rfl ⟨rfl, (Tch.refl _ _).alloc _⟩
      · obtain rfl : pt = n := by rw [HP.out]; omega
        go_enter Try.func21, Try.ntmps21
        go_wp2_with fail
        refine (HR.out _ ⟨hg.1.alloc _, hg.2.alloc _⟩).mono ?_
        rintro e w1 ⟨rfl, rfl⟩
        go_wp2_with fail
        exact bodyPost_ret (v := .tuple #[.agg #[.int .i64 pt, .bool (lead - pt == 48)], .int .i64 0]) (by simp [results, Try.results21, go_sem]) rfl ⟨rfl, (Tch.refl _ _).alloc _⟩
  · by_cases e2 : hind + 4 < lead + 1 - lag
    · have e3 : ¬ hind + 4 < hind := by omega
      obtain rfl : pt = hind + 4 := by rw [HP.out]; omega
      go_enter Try.func21, Try.ntmps21
      go_wp2_with fail
      refine (HR.out _ ⟨hg.1.alloc _, hg.2.alloc _⟩).mono ?_
      rintro e w1 ⟨rfl, rfl⟩
      go_wp2_with fail
      exact bodyPost_ret (v := .tuple #[.agg #[.int .i64 (hind + 4), .bool (lead - (hind + 4) == 48)], .int .i64 0]) (by simp [results, Try.results21, go_sem]) rfl ⟨rfl, (Tch.refl _ _).alloc _⟩
    · by_cases e3 : lead + 1 - lag < hind
      · obtain rfl : pt = hind := by rw [HP.out]; omega
        go_enter Try.func21, Try.ntmps21
        go_wp2_with fail
        refine (HR.out _ ⟨hg.1.alloc _, hg.2.alloc _⟩).mono ?_
        rintro e w1 ⟨rfl, rfl⟩
        go_wp2_with fail
        exact bodyPost_ret (v := .tuple #[.agg #[.int .i64 pt, .bool (lead - pt == 48)], .int .i64 0]) (by simp [results, Try.results21, go_sem]) rfl ⟨rfl, (Tch.refl _ _).alloc _⟩
      · obtain ⟨rm, hrm⟩ : ∃ rm, lead + 1 - lag = rm := ⟨_, rfl⟩
        obtain rfl : pt = lead + 1 - lag := by rw [HP.out]; omega
        clear hrm
        go_enter Try.func21, Try.ntmps21
        go_wp2_with fail
        refine (HR.out _ ⟨hg.1.alloc _, hg.2.alloc _⟩).mono ?_
        rintro e w1 ⟨rfl, rfl⟩
        go_wp2_with fail
        exact bodyPost_ret (v := .tuple #[.agg #[.int .i64 (lead + 1 - lag), .bool (lead - (lead + 1 - lag) == 48)], .int .i64 0]) (by simp [results, Try.results21, go_sem]) rfl ⟨rfl, (Tch.refl _ _).alloc _⟩
end Go.Proofs.Ytcineclpmacfhaa
