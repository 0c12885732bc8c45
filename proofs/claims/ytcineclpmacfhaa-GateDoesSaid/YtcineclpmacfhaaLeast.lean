/-
  No statement is proved here: the law GateLeast returns true (its plain law, and a walk of the code).
-/
import Derived.Test.YtcineclpmacfhaaTold
namespace Go.Proofs.Ytcineclpmacfhaa
open Go.RowKit

/-! The plain law. -/
def grB (s i : Nat) (g : Int) (o : OpD) : Bool := decide (o.seat = i ∧ i ≠ s ∧ g < o.frame ∧ o.frame ≤ 1099511627776)
def grS (s i : Nat) (g : Int) (o : OpD) : Int := if grB s i g o then o.frame else g
def gr (s i : Nat) (ops : List OpD) : Int := ops.foldl (grS s i) 0
theorem gr_snoc (s i : Nat) (ops : List OpD) (o : OpD) : gr s i (ops ++ [o]) = grS s i (gr s i ops) o := by simp [gr]
theorem gr_nonneg (s i : Nat) (ops : List OpD) : 0 ≤ gr s i ops := by
  unfold gr
  suffices h : ∀ g : Int, 0 ≤ g → 0 ≤ ops.foldl (grS s i) g from h 0 (by omega)
  induction ops with
  | nil => intro g h; simpa using h
  | cons o ops ih =>
    intro g h
    refine ih _ ?_
    unfold grS
    split
    · rename_i hb; simp [grB] at hb; omega
    · exact h
theorem told_gr (p s i : Nat) (hi : i < p) : ∀ ops : List OpD, (toldL p s ops)[i]? = some (gr s i ops) := by
  intro ops
  suffices h : ∀ r : List OpD, (toldL p s r.reverse)[i]? = some (gr s i r.reverse) by simpa using h ops.reverse
  intro r
  induction r with
  | nil => simp [toldL, gr, hi]
  | cons o r ih =>
    rw [List.reverse_cons, toldL_snoc, gr_snoc]
    have hlen := toldL_length p s r.reverse
    have hnn := gr_nonneg s i r.reverse
    generalize toldL p s r.reverse = l at *
    generalize gr s i r.reverse = g at *
    have hg : l[i] = g := by have := List.getElem?_eq_getElem (show i < l.length by omega); rw [this] at ih; simpa using ih
    unfold markS grS
    have hB : grB s i g o = decide (o.seat = i ∧ i ≠ s ∧ g < o.frame ∧ o.frame ≤ 1099511627776) := rfl
    generalize grB s i g o = bb at *
    cases hm : markB p s o.seat o.frame
    · simp only [Bool.false_eq_true, if_false]
      rw [ih]
      simp only [markB, decide_eq_false_iff_not] at hm
      cases bb
      · rfl
      · have := of_decide_eq_true hB.symm
        omega
    · obtain ⟨h1, h2, h3, h4, h5⟩ := markB_yes hm
      simp only [if_true, markL]
      by_cases he : o.seat.toNat = i
      · rw [he, List.getElem?_set_self (by omega)]
        simp only [List.getD, ih, Option.getD_some, Option.some.injEq]
        cases bb
        · have := of_decide_eq_false hB.symm
          simp only [Bool.false_eq_true, if_false]
          omega
        · have := of_decide_eq_true hB.symm
          simp only [if_true]
          omega
      · rw [List.getElem?_set_ne he, ih]
        cases bb
        · rfl
        · have := of_decide_eq_true hB.symm
          omega
theorem minL_le (x : Int) (l : List Int) : minL x l ≤ x ∧ ∀ y ∈ l, minL x l ≤ y := by
  unfold minL
  induction l generalizing x with
  | nil => simp
  | cons a l ih =>
    simp only [List.foldl_cons, List.mem_cons]
    have := ih (min x a)
    refine ⟨by omega, ?_⟩
    rintro y (rfl | h)
    · omega
    · exact this.2 y h
theorem minL_mem (x : Int) (l : List Int) : minL x l ∈ x :: l := by
  unfold minL
  induction l generalizing x with
  | nil => simp
  | cons a l ih =>
    simp only [List.foldl_cons]
    have := ih (min x a)
    simp only [List.mem_cons] at this ⊢
    rcases this with h | h
    · rcases (show min x a = x ∨ min x a = a by omega) with e | e <;> rw [h, e] <;> simp
    · exact .inr (.inr h)
theorem leastL_facts (l : List Int) (s : Nat) (h2 : 2 ≤ l.length) (hs : s < l.length) :
    (∀ i (h : i < l.length), i ≠ s → leastL l s ≤ l[i]) ∧ ∃ i, ∃ h : i < l.length, i ≠ s ∧ l[i] = leastL l s := by
  have hne : restL l s ≠ [] := by
    intro h
    have hl : (restL l s).length = l.length - 1 := by simp [restL]; omega
    rw [h] at hl
    simp at hl
    omega
  obtain ⟨x, tl, hx⟩ : ∃ x tl, restL l s = x :: tl := by
    match h : restL l s with
    | [] => exact absurd h hne
    | x :: tl => exact ⟨x, tl, rfl⟩
  have hm : ∀ y, y ∈ restL l s ↔ ∃ i, ∃ h : i < l.length, i ≠ s ∧ l[i] = y := by
    intro y
    unfold restL
    rw [List.mem_append, List.mem_take_iff_getElem, List.mem_drop_iff_getElem]
    constructor
    · rintro (⟨i, h, rfl⟩ | ⟨i, h, rfl⟩)
      · exact ⟨i, by omega, by omega, rfl⟩
      · exact ⟨s + 1 + i, by omega, by omega, rfl⟩
    · rintro ⟨i, h, hne, rfl⟩
      by_cases hlt : i < s
      · exact .inl ⟨i, by omega, rfl⟩
      · exact .inr ⟨i - (s + 1), by omega, by congr 1; omega⟩
  have e : leastL l s = minL x tl := by unfold leastL; rw [hx]; rfl
  rw [e]
  constructor
  · intro i h hne
    have := (hm l[i]).2 ⟨i, h, hne, rfl⟩
    rw [hx] at this
    rcases List.mem_cons.1 this with h' | h'
    · rw [h']; exact (minL_le x tl).1
    · exact (minL_le x tl).2 _ h'
  · have := minL_mem x tl
    rw [← hx] at this
    exact (hm _).1 this

def metL (l : List Int) (s : Nat) (n : Int) (k : Nat) : Bool := (List.range k).any fun i => decide (i ≠ s ∧ l.getD i 0 = n)
theorem metL_succ (l : List Int) (s : Nat) (n : Int) (k : Nat) : metL l s n (k + 1) = (metL l s n k || decide (k ≠ s ∧ l.getD k 0 = n)) := by
  simp [metL, List.range_succ]
theorem metL_end (l : List Int) (s : Nat) (h2 : 2 ≤ l.length) (hs : s < l.length) : metL l s (leastL l s) l.length = true := by
  obtain ⟨i, h, hne, he⟩ := (leastL_facts l s h2 hs).2
  simp only [metL, List.any_eq_true]
  exact ⟨i, by simpa using h, by simp [hne, List.getD, he, h]⟩

/-! The walk. -/
set_option maxHeartbeats 1000000 in
theorem Least_no (p s : Int) (n c : Nat) (A : Option Addr) (w : World) (h : newB p s = false) (hn : n ≤ 9223372036854775807) :
    Calls Try.prog 4 #[.int .i64 p, .int .i64 s, .slice A n c] w fun e w' => e = .returned (.bool true) ∧ Tch None_ w w' := by
  go_enter Try.func4, Try.ntmps4
  go_wp2_with fail
  refine (told_no p s n c A w h hn).mono ?_
  rintro e w1 ⟨rfl, rfl⟩
  go_wp2_with fail
  go_ret
  exact ⟨rfl, Tch.refl _ _⟩

theorem gr_ways (s k : Nat) (g : Int) (o : OpD) :
    ((o.seat == (k : Int)) = false ∧ grB s k g o = false) ∨ ((o.seat == (k : Int)) = true ∧ ((k : Int) != (s : Int)) = false ∧ grB s k g o = false) ∨
      ((o.seat == (k : Int)) = true ∧ ((k : Int) != (s : Int)) = true ∧ ¬ g < o.frame ∧ grB s k g o = false) ∨
      ((o.seat == (k : Int)) = true ∧ ((k : Int) != (s : Int)) = true ∧ g < o.frame ∧ ¬ o.frame ≤ 1099511627776 ∧ grB s k g o = false) ∨
      ((o.seat == (k : Int)) = true ∧ ((k : Int) != (s : Int)) = true ∧ g < o.frame ∧ o.frame ≤ 1099511627776 ∧ grB s k g o = true) := by
  simp only [grB, beq_eq_false_iff_ne, beq_iff_eq, bne_iff_ne, decide_eq_false_iff_not, decide_eq_true_eq, bne_eq_false_iff_eq]
  omega

set_option maxRecDepth 100000 in
set_option maxHeartbeats 4000000 in
theorem Least_yes (p s n c B : Nat) (A : Option Addr) (ops : List OpD) (w : World) (h2 : 2 ≤ p) (h6 : p ≤ 6) (hs : s < p) (hB : B ≤ w.heap.size)
    (hr : Reads w B 6 A n (ops.flatMap OpD.vals)) (hn : ops.length = n) (hsz : n * 48 ≤ 140737488351232) :
    Calls Try.prog 4 #[.int .i64 p, .int .i64 s, .slice A n c] w fun e w' => e = .returned (.bool true) ∧ Tch None_ w w' := by
  have HT := Lib.hid (told_yes p s n c B A ops w h2 h6 hs hB hr hn hsz)
  have hlen := toldL_length p s ops
  have hgr := fun i hi => told_gr p s i hi ops
  obtain ⟨l, hl⟩ : ∃ l, toldL p s ops = l := ⟨_, rfl⟩
  rw [hl] at HT hlen hgr
  clear hl
  have HM := Lib.hid (fun g m w (hg : GateAt w g m l s) => Marks_any g m s l w hg (by omega))
  have HL := fun g m w (hg : GateAt w g m l s) => Least_any g m s l w hg (by omega) (by omega) (by omega)
  have F := leastL_facts l s (by omega) (by omega)
  have HE := metL_end l s (by omega) (by omega)
  rw [hlen] at HE
  generalize leastL l s = nl at *
  have HL := Lib.hid HL
  have HE := Lib.hid HE
  have HG := Lib.hid hgr
  have HF := Lib.hid F.1
  clear F hgr
  have H0 : Hid (l.getD s 0 = 0) := by
    show l.getD s 0 = 0
    rw [List.getD, HG.out s hs]
    have : ∀ r : List OpD, gr s s r = 0 := by
      intro r
      unfold gr
      induction r with
      | nil => rfl
      | cons o r ih => rw [List.foldl_cons, show grS s s 0 o = 0 from by unfold grS grB; simp]; exact ih
    rw [this]; rfl
  have hlen' := Lib.hid hlen
  clear hlen
  go_enter Try.func4, Try.ntmps4
  go_wp2_with fail
  refine HT.out.mono ?_
  rintro e w1 ⟨g, m, rfl, hg, ht⟩
  go_wp2_with fail
  refine (HM.out g m w1 hg).mono ?_
  rintro e w2 ⟨v, rfl, hown, ht2⟩
  go_wp2_with fail
  refine (HL.out g m w2 ⟨hg.1.keep ht2, hg.2.keep ht2⟩).mono ?_
  rintro e w3 ⟨rfl, ht3⟩
  have hown3 := ht3.row hown (fun _ _ h => h)
  rw [hlen'.out] at hown3
  obtain ⟨A', c', rfl, hc', _⟩ := own_form hown3
  obtain ⟨g', cs, rfl, _, _, _, hcs, htk, hb⟩ := Blk.of_own hown3 (by omega)
  have hcell : ∀ i, i < p → ∀ W, Tch None_ w3 W → W.cell? ⟨g', i, none⟩ = some (.int .i64 (l.getD i 0)) := by
    intro i hi W hW
    rw [(hb.keep hW).cell]
    have h1 := congrArg (·[i]?) htk
    simp only [List.getElem?_take, Nat.mul_one] at h1
    rw [if_pos hi] at h1
    have h2 := HG.out i hi
    simpa [h2, List.getD] using h1
  have q0 : w3.cell? ⟨g', s, none⟩ = some (.int .i64 0) := by rw [hcell s hs w3 (Tch.refl _ _), H0.out]
  have HC := Lib.hid hcell
  have ht0 : Tch None_ w w3 := (ht.then ht2).then ht3
  clear hcell hown hown3 hcs htk hb hg ht ht2 ht3 hc'
  have d1 : s < p := hs
  go_wp2_with fail
  go_loopw [11, 12] (fun t i wr => ∃ k : Nat, k ≤ p ∧ i = .int .i64 k ∧ t = .bool (metL l s nl k) ∧ Tch None_ w3 wr) (fun _ i _ => p - (intOf i).toNat)
  case atStart => exact ⟨0, by omega, rfl, rfl, Tch.refl _ _⟩
  case round =>
    obtain ⟨k, hk, rfl, rfl, htk⟩ := hrel
    by_cases hlt : k < p
    · obtain ⟨wo, rfl⟩ : ∃ wo : World, wo = wr := ⟨_, rfl⟩
      have H3 := Lib.hid (metL_succ l s nl k)
      go_wp2_with fail
      go_loopw [13, 14] (fun t i wr => ∃ j : Nat, j ≤ n ∧ i = .int .i64 j ∧ t = .int .i64 (gr s k (ops.take j)) ∧ Tch None_ w3 wr) (fun _ i _ => n - (intOf i).toNat)
      case atStart => exact ⟨0, by omega, rfl, by simp [gr], htk⟩
      case round =>
        obtain ⟨j, hj, rfl, rfl, htj⟩ := hrel
        by_cases hjn : j < n
        · have hrr := hr.tch (ht0.then htj) hB (fun _ _ h => h)
          obtain ⟨o, ho⟩ : ∃ o, ops[j]'(by omega) = o := ⟨_, rfl⟩
          obtain ⟨b, off, rfl, _, c0⟩ := hrr.field OpD.six hn j 0 hjn (by omega)
          obtain ⟨b', off', e', _, c1⟩ := hrr.field OpD.six hn j 1 hjn (by omega)
          simp only [Option.some.injEq, Addr.mk.injEq, and_true] at e'
          obtain ⟨rfl, rfl⟩ := e'
          obtain ⟨b', off', e', _, c2⟩ := hrr.field OpD.six hn j 2 hjn (by omega)
          simp only [Option.some.injEq, Addr.mk.injEq, and_true] at e'
          obtain ⟨rfl, rfl⟩ := e'
          obtain ⟨b', off', e', _, c3⟩ := hrr.field OpD.six hn j 3 hjn (by omega)
          simp only [Option.some.injEq, Addr.mk.injEq, and_true] at e'
          obtain ⟨rfl, rfl⟩ := e'
          obtain ⟨b', off', e', _, c4⟩ := hrr.field OpD.six hn j 4 hjn (by omega)
          simp only [Option.some.injEq, Addr.mk.injEq, and_true] at e'
          obtain ⟨rfl, rfl⟩ := e'
          obtain ⟨b', off', e', _, c5⟩ := hrr.field OpD.six hn j 5 hjn (by omega)
          simp only [Option.some.injEq, Addr.mk.injEq, and_true] at e'
          obtain ⟨rfl, rfl⟩ := e'
          rw [ho] at c0 c1 c2 c3 c4 c5
          have H2 : gr s k (ops.take (j + 1)) = grS s k (gr s k (ops.take j)) o := by
            rw [List.take_succ_eq_append_getElem (by omega), gr_snoc, ho]
          obtain ⟨g1, hg1⟩ : ∃ g1, gr s k (ops.take j) = g1 := ⟨_, rfl⟩
          have H2 : Hid (gr s k (ops.take (j + 1)) = if grB s k g1 o then o.frame else g1) := by rw [H2, hg1]; exact rfl
          rw [hg1]
          simp [OpD.vals] at c0 c1 c2 c3 c4 c5
          clear hrr ho
          rcases gr_ways s k g1 o with ⟨a1, hx⟩ | ⟨a1, a2, hx⟩ | ⟨a1, a2, a3, hx⟩ | ⟨a1, a2, a3, a4, hx⟩ | ⟨a1, a2, a3, a4, hx⟩
          all_goals
            rw [hx] at H2
            clear hx
            go_wp2_with fail
            go_roundw
            case rel => exact ⟨j + 1, by omega, by go_num, by rw [H2.out]; rfl, htj.alloc _⟩
            case measure => simp [intOf]; omega
        · have e : gr s k (ops.take j) = gr s k ops := by rw [List.take_of_length_le (by omega)]
          have hx := HG.out k hlt
          have hD : l.getD k 0 = gr s k ops := by simp [List.getD, hx]
          rw [e, ← hD]
          have q1 := HC.out k hlt _ htj
          have hF := fun h => HF.out k (by have := hlen'.out; omega) h
          have hD2 : ∀ h : k < l.length, l[k] = l.getD k 0 := fun h => by simp [List.getD, h]
          rw [hD2] at hF
          clear hx hD hD2 e
          generalize l.getD k 0 = x at q1 hF H3 ⊢
          obtain ⟨mk, hmk⟩ : ∃ mk, metL l s nl k = mk := ⟨_, rfl⟩
          rw [hmk] at H3 ⊢
          have H3 := Lib.hid H3.out
          clear hmk
          have fin : ∀ b : Bool, (mk || decide (k ≠ s ∧ x = nl)) = b → Hid (metL l s nl (k + 1) = b) := fun b hb => H3.out.trans hb
          cases mk
          · by_cases hks : k = s
            · have e1 : ((k : Int) != (s : Int)) = false := by simp [hks]
              have HX := fin false (by simp [hks])
              clear fin hF hks
              go_wp2_with fail
              go_roundw
              case rel => exact ⟨k + 1, by omega, by go_num, by rw [HX.out], htj⟩
              case measure => simp [intOf]; omega
            · have e1 : ((k : Int) != (s : Int)) = true := by simp; omega
              have e2 : ¬ x < nl := by have := hF hks; omega
              by_cases hxn : x = nl
              · have e3 : (x == nl) = true := by simp [hxn]
                have HX := fin true (by simp [hks, hxn])
                clear fin hF hks hxn
                go_wp2_with fail
                go_roundw
                case rel => exact ⟨k + 1, by omega, by go_num, by rw [HX.out], htj⟩
                case measure => simp [intOf]; omega
              · have e3 : (x == nl) = false := by simp [hxn]
                have HX := fin false (by simp [hxn])
                clear fin hF hks hxn
                go_wp2_with fail
                go_roundw
                case rel => exact ⟨k + 1, by omega, by go_num, by rw [HX.out], htj⟩
                case measure => simp [intOf]; omega
          · have HX := fin true (by simp)
            by_cases hks : k = s
            · have e1 : ((k : Int) != (s : Int)) = false := by simp [hks]
              clear fin hF hks
              go_wp2_with fail
              go_roundw
              case rel => exact ⟨k + 1, by omega, by go_num, by rw [HX.out], htj⟩
              case measure => simp [intOf]; omega
            · have e1 : ((k : Int) != (s : Int)) = true := by simp; omega
              have e2 : ¬ x < nl := by have := hF hks; omega
              clear fin hF hks
              go_wp2_with fail
              go_roundw
              case rel => exact ⟨k + 1, by omega, by go_num, by rw [HX.out], htj⟩
              case measure => simp [intOf]; omega
    · obtain rfl : k = p := by omega
      rw [HE.out]
      go_wp2_with fail
      go_ret
      exact ⟨rfl, ht0.then htk⟩
end Go.Proofs.Ytcineclpmacfhaa
