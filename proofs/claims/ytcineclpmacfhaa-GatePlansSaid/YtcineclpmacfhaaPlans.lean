/-
  No statement is proved here: the law GatePlans returns true (a walk of the code).
-/
import Derived.Test.YtcineclpmacfhaaTold
namespace Go.Proofs.Ytcineclpmacfhaa
open Go.RowKit

theorem planTo_facts (lead hind lag n : Int) :
    hind ≤ planTo lead hind lag n ∧ planTo lead hind lag n ≤ hind + 4 ∧ (hind < planTo lead hind lag n → planTo lead hind lag n ≤ n ∧ planTo lead hind lag n ≤ lead + 1 - lag) ∧
      (n ≤ planTo lead hind lag n ∨ lead + 1 - lag ≤ planTo lead hind lag n ∨ planTo lead hind lag n = hind + 4) := by
  unfold planTo
  omega

set_option maxHeartbeats 1000000 in
theorem Plans_no (p s lead behind lag : Int) (n c : Nat) (A : Option Addr) (w : World) (h : newB p s = false) (hn : n ≤ 9223372036854775807) :
    Calls Try.prog 3 #[.int .i64 p, .int .i64 s, .slice A n c, .int .i64 lead, .int .i64 behind, .int .i64 lag] w fun e w' => e = .returned (.bool true) ∧ Tch None_ w w' := by
  go_enter Try.func3, Try.ntmps3
  go_wp2_with fail
  refine (told_no p s n c A w h hn).mono ?_
  rintro e w1 ⟨rfl, rfl⟩
  go_wp2_with fail
  go_ret
  exact ⟨rfl, Tch.refl _ _⟩

theorem may_no {lead behind lag : Int} (h : ¬ (0 ≤ lead ∧ lead ≤ 1099511627776 ∧ 0 ≤ behind ∧ behind ≤ 48 ∧ behind ≤ lead ∧ 1 ≤ lag ∧ lag < 48)) :
    ¬ 0 ≤ lead ∨ (0 ≤ lead ∧ ¬ lead ≤ 1099511627776) ∨ (0 ≤ lead ∧ lead ≤ 1099511627776 ∧ ¬ 0 ≤ behind) ∨ (0 ≤ lead ∧ lead ≤ 1099511627776 ∧ 0 ≤ behind ∧ ¬ behind ≤ 48) ∨
      (0 ≤ lead ∧ lead ≤ 1099511627776 ∧ 0 ≤ behind ∧ behind ≤ 48 ∧ ¬ behind ≤ lead) ∨ (0 ≤ lead ∧ lead ≤ 1099511627776 ∧ 0 ≤ behind ∧ behind ≤ 48 ∧ behind ≤ lead ∧ ¬ 1 ≤ lag) ∨
      (0 ≤ lead ∧ lead ≤ 1099511627776 ∧ 0 ≤ behind ∧ behind ≤ 48 ∧ behind ≤ lead ∧ 1 ≤ lag ∧ ¬ lag < 48) := by
  omega

set_option maxHeartbeats 1000000 in
theorem Plans_off (p s n c B : Nat) (lead behind lag : Int) (A : Option Addr) (ops : List OpD) (w : World) (h2 : 2 ≤ p) (h6 : p ≤ 6) (hs : s < p) (hB : B ≤ w.heap.size)
    (hr : Reads w B 6 A n (ops.flatMap OpD.vals)) (hn : ops.length = n) (hsz : n * 48 ≤ 140737488351232)
    (hm : ¬ (0 ≤ lead ∧ lead ≤ 1099511627776 ∧ 0 ≤ behind ∧ behind ≤ 48 ∧ behind ≤ lead ∧ 1 ≤ lag ∧ lag < 48)) :
    Calls Try.prog 3 #[.int .i64 p, .int .i64 s, .slice A n c, .int .i64 lead, .int .i64 behind, .int .i64 lag] w fun e w' => e = .returned (.bool true) ∧ Tch None_ w w' := by
  have HT := Lib.hid (told_yes p s n c B A ops w h2 h6 hs hB hr hn hsz)
  clear hr
  rcases may_no hm with d1 | ⟨d1, d2⟩ | ⟨d1, d2, d3⟩ | ⟨d1, d2, d3, d4⟩ | ⟨d1, d2, d3, d4, d5⟩ | ⟨d1, d2, d3, d4, d5, d6⟩ | ⟨d1, d2, d3, d4, d5, d6, d7⟩
  all_goals clear hm
  case inr.inr.inr.inr.inr.inr =>
    have d8 : decide (lag < 48) = false := by simp; omega
    go_enter Try.func3, Try.ntmps3
    go_wp2_with fail
    refine HT.out.mono ?_
    rintro e w1 ⟨g, m, rfl, hg, ht⟩
    go_wp2_with fail
    go_ret
    exact ⟨rfl, ht⟩
  all_goals
    go_enter Try.func3, Try.ntmps3
    go_wp2_with fail
    refine HT.out.mono ?_
    rintro e w1 ⟨g, m, rfl, hg, ht⟩
    go_wp2_with fail
    go_ret
    exact ⟨rfl, ht⟩

set_option maxHeartbeats 2000000 in
theorem Plans_on (p s n c B : Nat) (lead behind lag : Int) (A : Option Addr) (ops : List OpD) (w : World) (h2 : 2 ≤ p) (h6 : p ≤ 6) (hs : s < p) (hB : B ≤ w.heap.size)
    (hr : Reads w B 6 A n (ops.flatMap OpD.vals)) (hn : ops.length = n) (hsz : n * 48 ≤ 140737488351232)
    (d1 : 0 ≤ lead) (d2 : lead ≤ 1099511627776) (d3 : 0 ≤ behind) (d4 : behind ≤ 48) (d5 : behind ≤ lead) (d6 : 1 ≤ lag) (d7 : lag < 48) :
    Calls Try.prog 3 #[.int .i64 p, .int .i64 s, .slice A n c, .int .i64 lead, .int .i64 behind, .int .i64 lag] w fun e w' => e = .returned (.bool true) ∧ Tch None_ w w' := by
  have HT := Lib.hid (told_yes p s n c B A ops w h2 h6 hs hB hr hn hsz)
  have hlen := toldL_length p s ops
  clear hr
  generalize toldL p s ops = l at *
  have HP := fun g m w (hg : GateAt w g m l s) => Plan_yes g m s l lead (lead - behind) lag w hg (by omega) (by omega) (by omega) (by omega) (by omega) d2 (by omega) d6 d7
  have HL := fun g m w (hg : GateAt w g m l s) => Least_any g m s l w hg (by omega) (by omega) (by omega)
  have F := planTo_facts lead (lead - behind) lag (leastL l s)
  generalize leastL l s = nl at *
  generalize planTo lead (lead - behind) lag nl = to at *
  obtain ⟨F1, F2, F3, F4⟩ := F
  have HP := Lib.hid HP
  have HL := Lib.hid HL
  have u1 : ¬ to - (lead - behind) < 0 := by omega
  have u2 : ¬ 4 < to - (lead - behind) := by omega
  by_cases u3 : 0 < to - (lead - behind)
  · obtain ⟨F5, F6⟩ := F3 (by omega)
    have u4 : ¬ nl < to := by omega
    have u5 : ¬ lead + 1 - lag < to := by omega
    clear F3
    by_cases v1 : nl ≤ to
    · clear F4
      go_enter Try.func3, Try.ntmps3
      go_wp2_with fail
      refine HT.out.mono ?_
      rintro e w1 ⟨g, m, rfl, hg, ht⟩
      go_wp2_with fail
      refine (HP.out g m w1 hg).mono ?_
      rintro e w2 ⟨rfl, ht2⟩
      go_wp2_with fail
      refine (HL.out g m _ ⟨(hg.1.keep ht2).alloc _, (hg.2.keep ht2).alloc _⟩).mono ?_
      rintro e w3 ⟨rfl, ht3⟩
      have hb := (Blk.new w2 27 #[.int .i64 to, .bool (lead - to == 48)]).keep ht3
      have ht4 : Tch None_ w w3 := ((ht.then ht2).alloc _).then ht3
      have q0 := hb.cell 0
      have q1 := hb.cell 1
      simp at q0 q1
      clear hb hg ht ht2 ht3
      go_wp2_with fail
      go_ret
      exact ⟨by simp, ht4⟩

    · by_cases v2 : lead + 1 - lag ≤ to
      · clear F4
        go_enter Try.func3, Try.ntmps3
        go_wp2_with fail
        refine HT.out.mono ?_
        rintro e w1 ⟨g, m, rfl, hg, ht⟩
        go_wp2_with fail
        refine (HP.out g m w1 hg).mono ?_
        rintro e w2 ⟨rfl, ht2⟩
        go_wp2_with fail
        refine (HL.out g m _ ⟨(hg.1.keep ht2).alloc _, (hg.2.keep ht2).alloc _⟩).mono ?_
        rintro e w3 ⟨rfl, ht3⟩
        have hb := (Blk.new w2 27 #[.int .i64 to, .bool (lead - to == 48)]).keep ht3
        have ht4 : Tch None_ w w3 := ((ht.then ht2).alloc _).then ht3
        have q0 := hb.cell 0
        have q1 := hb.cell 1
        simp at q0 q1
        clear hb hg ht ht2 ht3
        go_wp2_with fail
        go_ret
        exact ⟨by simp, ht4⟩

      · have v3 : to - (lead - behind) = 4 := by omega
        have v3 : (to - (lead - behind) == 4) = true := by simp; omega
        clear F4
        go_enter Try.func3, Try.ntmps3
        go_wp2_with fail
        refine HT.out.mono ?_
        rintro e w1 ⟨g, m, rfl, hg, ht⟩
        go_wp2_with fail
        refine (HP.out g m w1 hg).mono ?_
        rintro e w2 ⟨rfl, ht2⟩
        go_wp2_with fail
        refine (HL.out g m _ ⟨(hg.1.keep ht2).alloc _, (hg.2.keep ht2).alloc _⟩).mono ?_
        rintro e w3 ⟨rfl, ht3⟩
        have hb := (Blk.new w2 27 #[.int .i64 to, .bool (lead - to == 48)]).keep ht3
        have ht4 : Tch None_ w w3 := ((ht.then ht2).alloc _).then ht3
        have q0 := hb.cell 0
        have q1 := hb.cell 1
        simp at q0 q1
        clear hb hg ht ht2 ht3
        go_wp2_with fail
        go_ret
        exact ⟨by simp, ht4⟩

  · clear F3
    by_cases v1 : nl ≤ to
    · clear F4
      go_enter Try.func3, Try.ntmps3
      go_wp2_with fail
      refine HT.out.mono ?_
      rintro e w1 ⟨g, m, rfl, hg, ht⟩
      go_wp2_with fail
      refine (HP.out g m w1 hg).mono ?_
      rintro e w2 ⟨rfl, ht2⟩
      go_wp2_with fail
      refine (HL.out g m _ ⟨(hg.1.keep ht2).alloc _, (hg.2.keep ht2).alloc _⟩).mono ?_
      rintro e w3 ⟨rfl, ht3⟩
      have hb := (Blk.new w2 27 #[.int .i64 to, .bool (lead - to == 48)]).keep ht3
      have ht4 : Tch None_ w w3 := ((ht.then ht2).alloc _).then ht3
      have q0 := hb.cell 0
      have q1 := hb.cell 1
      simp at q0 q1
      clear hb hg ht ht2 ht3
      go_wp2_with fail
      go_ret
      exact ⟨by simp, ht4⟩

    · by_cases v2 : lead + 1 - lag ≤ to
      · clear F4
        go_enter Try.func3, Try.ntmps3
        go_wp2_with fail
        refine HT.out.mono ?_
        rintro e w1 ⟨g, m, rfl, hg, ht⟩
        go_wp2_with fail
        refine (HP.out g m w1 hg).mono ?_
        rintro e w2 ⟨rfl, ht2⟩
        go_wp2_with fail
        refine (HL.out g m _ ⟨(hg.1.keep ht2).alloc _, (hg.2.keep ht2).alloc _⟩).mono ?_
        rintro e w3 ⟨rfl, ht3⟩
        have hb := (Blk.new w2 27 #[.int .i64 to, .bool (lead - to == 48)]).keep ht3
        have ht4 : Tch None_ w w3 := ((ht.then ht2).alloc _).then ht3
        have q0 := hb.cell 0
        have q1 := hb.cell 1
        simp at q0 q1
        clear hb hg ht ht2 ht3
        go_wp2_with fail
        go_ret
        exact ⟨by simp, ht4⟩

      · exfalso; omega
end Go.Proofs.Ytcineclpmacfhaa
