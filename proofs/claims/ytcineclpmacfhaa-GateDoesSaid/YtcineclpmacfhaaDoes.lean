/-
  No statement is proved here: what made and does come to (walks of the code).
-/
import Derived.Test.YtcineclpmacfhaaRef
import Derived.Deep.RegionHeld3
namespace Go.Proofs.Ytcineclpmacfhaa
open Go.RowKit

/-- A pair in memory: the program's gate and the reference's, with the same marks. -/
structure PairD where
  pb : Nat
  g : Nat
  m : Nat
  rg : Nat
  rm : Nat
  l : List Int
  s : Nat
structure PairAt (w : World) (p : PairD) : Prop where
  box : Blk w p.pb 57 #[.pointer (some ⟨p.g, 0, none⟩), .pointer (some ⟨p.rg, 0, none⟩)]
  own : GateAt w p.g p.m p.l p.s
  ref : RGateAt w p.rg p.rm p.l p.s
  ge : 2 ≤ p.l.length
  le : p.l.length ≤ 6
  seat : p.s < p.l.length
  bd : ∀ y ∈ p.l, y ≤ 1099511627776
  ne : p.m ≠ p.rm
theorem PairAt.tch {S : Nat → Prop} {w w' : World} {p : PairD} (h : PairAt w p) (ht : Tch S w w') (h1 : ¬ S p.pb) (h2 : ¬ S p.g) (h3 : ¬ S p.m) (h4 : ¬ S p.rg) (h5 : ¬ S p.rm) : PairAt w' p :=
  ⟨h.box.tch ht h1, ⟨h.own.1.tch ht h2, h.own.2.tch ht h3⟩, ⟨h.ref.1.tch ht h4, h.ref.2.tch ht h5⟩, h.ge, h.le, h.seat, h.bd, h.ne⟩
theorem PairAt.keep {w w' : World} {p : PairD} (h : PairAt w p) (ht : Tch None_ w w') : PairAt w' p := h.tch ht (fun h => h) (fun h => h) (fun h => h) (fun h => h) (fun h => h)

theorem made_no (p s : Int) (w : World) (h : newB p s = false) :
    Calls Try.prog 10 #[.int .i64 p, .int .i64 s] w fun e w' => e = .returned (.tuple #[.pointer none, .bool true]) ∧ w = w' := by
  go_enter Try.func10, Try.ntmps10
  go_wp2_with fail
  refine (New_no p s w h).mono ?_
  rintro e w1 ⟨rfl, rfl⟩
  go_wp2_with fail
  refine (RNew_no p s w h).mono ?_
  rintro e w1 ⟨rfl, rfl⟩
  go_wp2_with fail
  go_ret2
  exact ⟨rfl, rfl⟩

theorem made_yes (p s : Nat) (w : World) (h2 : 2 ≤ p) (h6 : p ≤ 6) (hs : s < p) :
    Calls Try.prog 10 #[.int .i64 p, .int .i64 s] w fun e w' => ∃ d : PairD, e = .returned (.tuple #[.pointer (some ⟨d.pb, 0, none⟩), .bool true]) ∧ PairAt w' d ∧ w.heap.size ≤ d.m ∧ w.heap.size ≤ d.rm ∧ Tch None_ w w' := by
  go_enter Try.func10, Try.ntmps10
  go_wp2_with fail
  refine (New_yes p s w h2 h6 hs).mono ?_
  rintro e w1 ⟨g, m, rfl, hg, _, hm, ht⟩
  go_wp2_with fail
  refine (RNew_yes p s w1 h2 h6 hs).mono ?_
  rintro e w2 ⟨rg, rm, rfl, hrg, _, hrm, ht2⟩
  go_wp2_with fail
  go_ret2
  have hmlt := hg.2.lt
  have hs2 := ht.size
  exact ⟨⟨w2.heap.size, g, m, rg, rm, List.replicate p 0, s⟩, rfl, ⟨Blk.new _ _ _, ⟨(hg.1.keep ht2).alloc _, (hg.2.keep ht2).alloc _⟩, ⟨hrg.1.alloc _, hrg.2.alloc _⟩, by simpa using h2, by simpa using h6, by simpa using hs,
    by intro y hy; simp at hy; omega, by show m ≠ rm; omega⟩, hm, by show w.heap.size ≤ rm; omega, (ht.then ht2).alloc _⟩

theorem markS_bd (n s : Nat) (l : List Int) (o : OpD) (h : ∀ y ∈ l, y ≤ 1099511627776) : ∀ y ∈ markS n s l o, y ≤ 1099511627776 := by
  unfold markS
  cases hb : markB n s o.seat o.frame
  · simpa using h
  · obtain ⟨h1, h2, h3, h4, h5⟩ := markB_yes hb
    simp only [if_true, markL]
    intro y hy
    rcases List.mem_or_eq_of_mem_set hy with h' | h'
    · exact h y h'
    · subst h'
      have : l.getD o.seat.toNat 0 ≤ 1099511627776 := by
        rw [List.getD]
        by_cases hl : o.seat.toNat < l.length
        · rw [List.getElem?_eq_getElem hl]; exact h _ (List.getElem_mem hl)
        · rw [List.getElem?_eq_none (by omega)]; simp
      omega

/-- The two Marks in one form each, with the same answer. -/
theorem Mark_both (l : List Int) (s : Nat) (o : OpD) (hl : l.length ≤ 6) : ∃ r : Int,
    (∀ g m w, GateAt w g m l s → Calls Try.prog 14 #[.pointer (some ⟨g, 0, none⟩), .int .i64 o.seat, .int .i64 o.frame] w fun e w' => e = .returned (.int .i64 r) ∧ GateAt w' g m (markS l.length s l o) s ∧ Tch (fun k => k = m) w w') ∧
    (∀ g m w, RGateAt w g m l s → Calls Try.prog 19 #[.pointer (some ⟨g, 0, none⟩), .int .i64 o.seat, .int .i64 o.frame] w fun e w' => e = .returned (.int .i64 r) ∧ RGateAt w' g m (markS l.length s l o) s ∧ Tch (fun k => k = m) w w') := by
  unfold markS
  cases h : markB l.length s o.seat o.frame
  · refine ⟨210, fun g m w hg => (Mark_no g m s o.seat o.frame l w hg hl h).mono ?_, fun g m w hg => (RMark_no g m s o.seat o.frame l w hg hl h).mono ?_⟩
    all_goals
      rintro e w' ⟨rfl, rfl⟩
      exact ⟨rfl, by simpa using hg, Tch.refl _ _⟩
  · obtain ⟨h1, h2, h3, h4, h5⟩ := markB_yes h
    obtain ⟨p, hp⟩ := Int.eq_ofNat_of_zero_le h1
    rw [hp] at h2 h3 ⊢
    refine ⟨0, fun g m w hg => (Mark_yes g m s p o.frame l w hg hl (by omega) (by omega) h4 h5).mono ?_, fun g m w hg => (RMark_yes g m s p o.frame l w hg hl (by omega) (by omega) h4 h5).mono ?_⟩
    all_goals
      rintro e w' ⟨rfl, h6, h7⟩
      exact ⟨rfl, by simpa using h6, h7⟩

def PairD.with (p : PairD) (l : List Int) : PairD := { p with l := l }
def TwoOf (p : PairD) : Nat → Prop := fun k => k = p.m ∨ k = p.rm

set_option maxRecDepth 100000 in
set_option maxHeartbeats 1000000 in
/-- does: Mark. -/
theorem does_mark (p : PairD) (o : OpD) (w : World) (hp : PairAt w p) (hk : pickI o.kind 5 = 0) (b1 : -9223372036854775808 ≤ o.kind) (b2 : o.kind ≤ 9223372036854775807) :
    Calls Try.prog 12 #[.pointer (some ⟨p.pb, 0, none⟩), .agg #[.int .i64 o.kind, .int .i64 o.which, .int .i64 o.seat, .int .i64 o.frame, .int .i64 o.lead, .int .i64 o.lag]] w fun e w' =>
      e = .returned (.bool true) ∧ PairAt w' (p.with (markS p.l.length p.s p.l o)) ∧ Tch (TwoOf p) w w' := by
  obtain ⟨r, M1', M2'⟩ := Mark_both p.l p.s o hp.le
  have M1 := Lib.hid M1'
  have M2 := Lib.hid M2'
  have PK := Lib.hid (fun W => pick_any o.kind 5 W b1 b2 (by omega) (by omega))
  rw [hk] at PK
  clear hk M1' M2'
  go_enter Try.func12, Try.ntmps12
  go_wp2_with fail
  have hb := Blk.new w 36 #[.int .i64 o.kind, .int .i64 o.which, .int .i64 o.seat, .int .i64 o.frame, .int .i64 o.lead, .int .i64 o.lag]
  have ht : Tch None_ w (w.alloc (.cells #[.int .i64 o.kind, .int .i64 o.which, .int .i64 o.seat, .int .i64 o.frame, .int .i64 o.lead, .int .i64 o.lag] 36)) := (Tch.refl _ _).alloc _
  generalize w.alloc (.cells #[.int .i64 o.kind, .int .i64 o.which, .int .i64 o.seat, .int .i64 o.frame, .int .i64 o.lead, .int .i64 o.lag] 36) = W at *
  have hpW := hp.keep ht
  have c0 := hpW.box.cell 0
  have c1 := hpW.box.cell 1
  have q2 := hb.cell 2
  have q3 := hb.cell 3
  simp at c0 c1 q2 q3
  refine (PK.out W).mono ?_
  rintro e w1 ⟨rfl, rfl⟩
  go_wp2_with fail
  go_still_tail 8, (by kernel_rfl)
  change wpList _ _ _ _ _ W.drew
  clear c0 c1 q2 q3
  go_wp2_with fail
  refine (M1.out p.g p.m W.drew ⟨hpW.own.1.drew, hpW.own.2.drew⟩).mono ?_
  rintro e w2 ⟨rfl, hg2, ht2⟩
  have ht2' : Tch (fun k => k = p.m) W w2 := (Tch.refl _ _).drew.then ht2
  have hb2 := hb.tch ht2' (fun e => by have := hp.own.2.lt; omega)
  have hx2 := hpW.box.tch ht2' (fun e => hpW.box.ne_ hpW.own.2 (by decide) e)
  have hr2 : RGateAt w2 p.rg p.rm p.l p.s := ⟨hpW.ref.1.tch ht2' (fun e => hpW.ref.1.ne_ hpW.own.2 (by decide) e), hpW.ref.2.tch ht2' (fun e => hp.ne e.symm)⟩
  have c0 := hx2.cell 0
  have c1 := hx2.cell 1
  have q2 := hb2.cell 2
  have q3 := hb2.cell 3
  simp at c0 c1 q2 q3
  go_wp2_with fail
  go_still_tail 8, (by kernel_rfl)
  change wpList _ _ _ _ _ w2.drew
  clear c0 c1 q2 q3
  go_wp2_with fail
  refine (M2.out p.rg p.rm w2.drew ⟨hr2.1.drew, hr2.2.drew⟩).mono ?_
  rintro e w3 ⟨rfl, hg3, ht3⟩
  have ht3' : Tch (fun k => k = p.rm) w2 w3 := (Tch.refl _ _).drew.then ht3
  have rr : (r == r) = true := by simp
  go_wp2_with fail
  go_ret
  have hgg : GateAt w3 p.g p.m (markS p.l.length p.s p.l o) p.s := ⟨hg2.1.tch ht3' (fun e => hg2.1.ne_ hr2.2 (by decide) e), hg2.2.tch ht3' (fun e => hp.ne e)⟩
  refine ⟨by simp, ⟨hx2.tch ht3' (fun e => hx2.ne_ hr2.2 (by decide) e), hgg, hg3, by simpa [PairD.with, markS_length] using hp.ge, by simpa [PairD.with, markS_length] using hp.le, by simpa [PairD.with, markS_length] using hp.seat,
    markS_bd _ _ _ _ hp.bd, hp.ne⟩, (ht.any.trans ht2' (fun i _ e => .inl e)).trans ht3' (fun i _ e => .inr e)⟩

set_option maxRecDepth 100000 in
set_option maxHeartbeats 2000000 in
theorem does_least (p : PairD) (o : OpD) (w : World) (hp : PairAt w p) (hk : pickI o.kind 5 = 2 ∨ pickI o.kind 5 = 4) (b1 : -9223372036854775808 ≤ o.kind) (b2 : o.kind ≤ 9223372036854775807) :
    Calls Try.prog 12 #[.pointer (some ⟨p.pb, 0, none⟩), .agg #[.int .i64 o.kind, .int .i64 o.which, .int .i64 o.seat, .int .i64 o.frame, .int .i64 o.lead, .int .i64 o.lag]] w fun e w' =>
      e = .returned (.bool true) ∧ Tch None_ w w' := by
  have PK := Lib.hid (fun W => pick_any o.kind 5 W b1 b2 (by omega) (by omega))
  obtain ⟨kv, hkv⟩ : ∃ kv, pickI o.kind 5 = kv := ⟨_, rfl⟩
  rw [hkv] at PK hk
  have u0 : (kv == 0) = false := by simp; omega
  have u1 : (kv == 1) = false := by simp; omega
  have u3 : (kv == 3) = false := by simp; omega
  clear hk hkv
  have h5 := Lib.hid hp.le
  go_enter Try.func12, Try.ntmps12
  go_wp2_with fail
  have hb := Blk.new w 36 #[.int .i64 o.kind, .int .i64 o.which, .int .i64 o.seat, .int .i64 o.frame, .int .i64 o.lead, .int .i64 o.lag]
  have ht : Tch None_ w (w.alloc (.cells #[.int .i64 o.kind, .int .i64 o.which, .int .i64 o.seat, .int .i64 o.frame, .int .i64 o.lead, .int .i64 o.lag] 36)) := (Tch.refl _ _).alloc _
  generalize w.alloc (.cells #[.int .i64 o.kind, .int .i64 o.which, .int .i64 o.seat, .int .i64 o.frame, .int .i64 o.lead, .int .i64 o.lag] 36) = W at *
  have hpW := hp.keep ht
  have c0 := hpW.box.cell 0
  have c1 := hpW.box.cell 1
  simp at c0 c1
  refine (PK.out W).mono ?_
  rintro e w1 ⟨rfl, rfl⟩
  go_wp2_with fail
  refine (Least_any p.g p.m p.s p.l W hpW.own hpW.ge hpW.le hpW.seat).mono ?_
  rintro e w2 ⟨rfl, ht2⟩
  have hp2 := hpW.keep ht2
  have c0 := hp2.box.cell 0
  have c1 := hp2.box.cell 1
  simp at c0 c1
  go_wp2_with fail
  refine (RLeast_any p.rg p.rm p.s p.l w2 hp2.ref hp2.ge hp2.le hp2.seat hp2.bd).mono ?_
  rintro e w3 ⟨rfl, rfl⟩
  go_wp2_with fail
  go_ret
  exact ⟨by simp, ht.then ht2⟩

set_option maxRecDepth 100000 in
set_option maxHeartbeats 4000000 in
theorem does_plan (p : PairD) (o : OpD) (w : World) (hp : PairAt w p) (hk : pickI o.kind 5 = 3) (b1 : -9223372036854775808 ≤ o.kind) (b2 : o.kind ≤ 9223372036854775807) :
    Calls Try.prog 12 #[.pointer (some ⟨p.pb, 0, none⟩), .agg #[.int .i64 o.kind, .int .i64 o.which, .int .i64 o.seat, .int .i64 o.frame, .int .i64 o.lead, .int .i64 o.lag]] w fun e w' =>
      e = .returned (.bool true) ∧ Tch None_ w w' := by
  have PK := Lib.hid (fun W => pick_any o.kind 5 W b1 b2 (by omega) (by omega))
  rw [hk] at PK
  clear hk
  go_enter Try.func12, Try.ntmps12
  go_wp2_with fail
  have hb := Blk.new w 36 #[.int .i64 o.kind, .int .i64 o.which, .int .i64 o.seat, .int .i64 o.frame, .int .i64 o.lead, .int .i64 o.lag]
  have ht : Tch None_ w (w.alloc (.cells #[.int .i64 o.kind, .int .i64 o.which, .int .i64 o.seat, .int .i64 o.frame, .int .i64 o.lead, .int .i64 o.lag] 36)) := (Tch.refl _ _).alloc _
  generalize w.alloc (.cells #[.int .i64 o.kind, .int .i64 o.which, .int .i64 o.seat, .int .i64 o.frame, .int .i64 o.lead, .int .i64 o.lag] 36) = W at *
  have hpW := hp.keep ht
  have c0 := hpW.box.cell 0
  have c1 := hpW.box.cell 1
  simp at c0 c1
  refine (PK.out W).mono ?_
  rintro e w1 ⟨rfl, rfl⟩
  have q3 := hb.cell 3
  have q4 := hb.cell 4
  have q5 := hb.cell 5
  simp at q3 q4 q5
  obtain ⟨to, st, er, HP, HR⟩ : ∃ (to : Int) (st : Bool) (er : Int),
      (∀ w, GateAt w p.g p.m p.l p.s → Calls Try.prog 7 #[.pointer (some ⟨p.g, 0, none⟩), .int .i64 o.lead, .int .i64 o.frame, .int .i64 o.lag] w fun e w' => e = .returned (.tuple #[.agg #[.int .i64 to, .bool st], .int .i64 er]) ∧ Tch None_ w w') ∧
      (∀ w, RGateAt w p.rg p.rm p.l p.s → Calls Try.prog 21 #[.pointer (some ⟨p.rg, 0, none⟩), .int .i64 o.lead, .int .i64 o.frame, .int .i64 o.lag] w fun e w' => e = .returned (.tuple #[.agg #[.int .i64 to, .bool st], .int .i64 er]) ∧ Tch None_ w w') := by
    cases hB : planB o.lead o.frame o.lag
    · exact ⟨0, false, 1, fun w _ => Plan_no _ _ _ _ w hB, fun w _ => RPlan_no _ _ _ _ w hB⟩
    · obtain ⟨a1, a2, a3, a4, a5, a6⟩ := planB_yes hB
      exact ⟨_, _, 0, fun w h => Plan_yes _ _ _ _ _ _ _ w h hp.ge hp.le hp.seat a1 a2 a3 a4 a5 a6, fun w h => RPlan_yes _ _ _ _ _ _ _ w h hp.ge hp.le hp.seat hp.bd a1 a2 a3 a4 a5 a6⟩
  have HP' := Lib.hid HP
  have HR' := Lib.hid HR
  clear HP HR
  have htt := ht
  have z0 : w.heap.size < W.heap.size := hb.lt
  have z1 := hpW.box.lt
  have HS : Hid (∀ w', Tch None_ W w' → w'.cell? ⟨p.pb, 0, none⟩ = some (.pointer (some ⟨p.g, 0, none⟩)) ∧ w'.cell? ⟨p.pb, 1, none⟩ = some (.pointer (some ⟨p.rg, 0, none⟩)) ∧ w'.cell? ⟨w.heap.size, 3, none⟩ = some (.int .i64 o.frame) ∧
      w'.cell? ⟨w.heap.size, 4, none⟩ = some (.int .i64 o.lead) ∧ w'.cell? ⟨w.heap.size, 5, none⟩ = some (.int .i64 o.lag) ∧ Tch None_ W w') :=
    fun w' h => ⟨(h.cell z1 (fun h => h)).trans c0, (h.cell z1 (fun h => h)).trans c1, (h.cell z0 (fun h => h)).trans q3, (h.cell z0 (fun h => h)).trans q4, (h.cell z0 (fun h => h)).trans q5, h⟩
  go_wp2_with fail
  go_region_held3 (fun w' => w'.cell? ⟨p.pb, 0, none⟩ = some (.pointer (some ⟨p.g, 0, none⟩)) ∧ w'.cell? ⟨p.pb, 1, none⟩ = some (.pointer (some ⟨p.rg, 0, none⟩)) ∧ w'.cell? ⟨w.heap.size, 3, none⟩ = some (.int .i64 o.frame) ∧
      w'.cell? ⟨w.heap.size, 4, none⟩ = some (.int .i64 o.lead) ∧ w'.cell? ⟨w.heap.size, 5, none⟩ = some (.int .i64 o.lag) ∧ Tch None_ W w')
    ((refine HS.out _ ?_; repeat (first | assumption | exact Tch.refl _ _ | refine Tch.drew ?_ | refine Tch.drewN ?_ _ | refine Tch.alloc ?_ _ | refine Tch.setCell ?_ (.inr (by first | exact Tch.size (by assumption) | (simp; done))) _ | refine Tch.then ?_ (by assumption))))
    (first
      | (go_at_call 7
         refine (HP'.out _ (PairAt.own (hpW.keep ((((Tch.refl _ _).alloc _).drew))))).mono ?_
         rintro e w' ⟨rfl, ht2⟩
         have hbn := (Blk.drew (Blk.new W 27 #[.int .i64 0, .bool false])).keep ht2
         have n0 := hbn.cell 0
         have n1 := hbn.cell 1
         have n2 := hbn.frozen 0
         have n3 := hbn.frozen 1
         simp at n0 n1)
      | (go_at_call 7
         refine (HP'.out _ (PairAt.own (hpW.keep (((Tch.refl _ _).drew))))).mono ?_
         rintro e w' ⟨rfl, ht2⟩))
  rotate_left
  · have X1 : Tch None_ W ((w'.setCell ⟨W.heap.size, 0, none⟩ (.int .i64 to)).setCell ⟨W.heap.size, 1, none⟩ (.bool st)) :=
      ((((Tch.refl _ _).alloc _).drew.then ht2).setCell (p := ⟨W.heap.size, 0, none⟩) (.inr (Nat.le_refl _)) _).setCell (p := ⟨W.heap.size, 1, none⟩) (.inr (Nat.le_refl _)) _
    have X2 : Blk ((w'.setCell ⟨W.heap.size, 0, none⟩ (.int .i64 to)).setCell ⟨W.heap.size, 1, none⟩ (.bool st)) W.heap.size 27 #[.int .i64 to, .bool st] := by
      simpa using (hbn.set_ 0 (.int .i64 to)).set_ 1 (.bool st)
    clear hbn n0 n1 n2 n3 ht2
    generalize (w'.setCell ⟨W.heap.size, 0, none⟩ (.int .i64 to)).setCell ⟨W.heap.size, 1, none⟩ (.bool st) = X at *
    have X3 : W.heap.size ≤ W.heap.size := Nat.le_refl _
    generalize hv : W.heap.size = v at X2 X3 ⊢
    clear hv
    obtain ⟨k0, k1, k3, k4, k5, _⟩ := HS.out X X1
    have hpX := hpW.keep X1
    have y0 := X2.lt
    have HT : Hid (∀ w', Tch None_ X w' → w'.cell? ⟨p.pb, 1, none⟩ = some (.pointer (some ⟨p.rg, 0, none⟩)) ∧ w'.cell? ⟨w.heap.size, 3, none⟩ = some (.int .i64 o.frame) ∧
        w'.cell? ⟨w.heap.size, 4, none⟩ = some (.int .i64 o.lead) ∧ w'.cell? ⟨w.heap.size, 5, none⟩ = some (.int .i64 o.lag) ∧ Tch None_ X w') :=
      fun w' h => ⟨(h.cell (Nat.lt_of_lt_of_le z1 X1.size) (fun h => h)).trans k1, (h.cell (Nat.lt_of_lt_of_le z0 X1.size) (fun h => h)).trans k3, (h.cell (Nat.lt_of_lt_of_le z0 X1.size) (fun h => h)).trans k4,
        (h.cell (Nat.lt_of_lt_of_le z0 X1.size) (fun h => h)).trans k5, h⟩
    clear hpW hb ht c0 c1 q3 q4 q5 HP' k0
    go_wp2_with fail
    go_region_held3 (fun w' => w'.cell? ⟨p.pb, 1, none⟩ = some (.pointer (some ⟨p.rg, 0, none⟩)) ∧ w'.cell? ⟨w.heap.size, 3, none⟩ = some (.int .i64 o.frame) ∧
        w'.cell? ⟨w.heap.size, 4, none⟩ = some (.int .i64 o.lead) ∧ w'.cell? ⟨w.heap.size, 5, none⟩ = some (.int .i64 o.lag) ∧ Tch None_ X w')
      ((refine HT.out _ ?_; repeat (first | assumption | exact Tch.refl _ _ | refine Tch.drew ?_ | refine Tch.drewN ?_ _ | refine Tch.alloc ?_ _ | refine Tch.setCell ?_ (.inr (by first | exact Tch.size (by assumption) | (simp; done))) _ | refine Tch.then ?_ (by assumption))))
      (first
        | (go_at_call 21
           refine (HR'.out _ (PairAt.ref (hpX.keep ((((Tch.refl _ _).alloc _).drew))))).mono ?_
           rintro e w' ⟨rfl, ht2⟩
           have hbn := (Blk.drew (Blk.new X 27 #[.int .i64 0, .bool false])).keep ht2
           have n0 := hbn.cell 0
           have n1 := hbn.cell 1
           have n2 := hbn.frozen 0
           have n3 := hbn.frozen 1
           simp at n0 n1)
        | (go_at_call 21
           refine (HR'.out _ (PairAt.ref (hpX.keep (((Tch.refl _ _).drew))))).mono ?_
           rintro e w' ⟨rfl, ht2⟩))
    rotate_left
    · have Y1 : Tch None_ X ((w'.setCell ⟨X.heap.size, 0, none⟩ (.int .i64 to)).setCell ⟨X.heap.size, 1, none⟩ (.bool st)) :=
        ((((Tch.refl _ _).alloc _).drew.then ht2).setCell (p := ⟨X.heap.size, 0, none⟩) (.inr (Nat.le_refl _)) _).setCell (p := ⟨X.heap.size, 1, none⟩) (.inr (Nat.le_refl _)) _
      have Y2 : Blk ((w'.setCell ⟨X.heap.size, 0, none⟩ (.int .i64 to)).setCell ⟨X.heap.size, 1, none⟩ (.bool st)) X.heap.size 27 #[.int .i64 to, .bool st] := by
        simpa using (hbn.set_ 0 (.int .i64 to)).set_ 1 (.bool st)
      clear hbn n0 n1 n2 n3 ht2
      generalize (w'.setCell ⟨X.heap.size, 0, none⟩ (.int .i64 to)).setCell ⟨X.heap.size, 1, none⟩ (.bool st) = Y at *
      generalize X.heap.size = v' at Y2 ⊢
      have r0 := (X2.keep Y1).cell 0
      have r1 := (X2.keep Y1).cell 1
      have r2 := Y2.cell 0
      have r3 := Y2.cell 1
      simp at r0 r1 r2 r3
      go_wp2_with fail
      go_ret
      exact ⟨by simp, (htt.then X1).then Y1⟩
    · have Y1 : Tch None_ X (w'.alloc (.cells #[.int .i64 to, .bool st] 27)) := ((Tch.refl _ _).drew.then ht2).alloc _
      have Y2 := Blk.new w' 27 #[.int .i64 to, .bool st]
      clear ht2
      generalize w'.alloc (.cells #[.int .i64 to, .bool st] 27) = Y at *
      generalize w'.heap.size = v' at Y2 ⊢
      have r0 := (X2.keep Y1).cell 0
      have r1 := (X2.keep Y1).cell 1
      have r2 := Y2.cell 0
      have r3 := Y2.cell 1
      simp at r0 r1 r2 r3
      go_wp2_with fail
      go_ret
      exact ⟨by simp, (htt.then X1).then Y1⟩
  · have X1 : Tch None_ W (w'.alloc (.cells #[.int .i64 to, .bool st] 27)) := ((Tch.refl _ _).drew.then ht2).alloc _
    have X2 := Blk.new w' 27 #[.int .i64 to, .bool st]
    have X3 : W.heap.size ≤ w'.heap.size := ht2.size
    clear ht2
    generalize w'.alloc (.cells #[.int .i64 to, .bool st] 27) = X at *
    generalize w'.heap.size = v at X2 X3 ⊢
    obtain ⟨k0, k1, k3, k4, k5, _⟩ := HS.out X X1
    have hpX := hpW.keep X1
    have y0 := X2.lt
    have HT : Hid (∀ w', Tch None_ X w' → w'.cell? ⟨p.pb, 1, none⟩ = some (.pointer (some ⟨p.rg, 0, none⟩)) ∧ w'.cell? ⟨w.heap.size, 3, none⟩ = some (.int .i64 o.frame) ∧
        w'.cell? ⟨w.heap.size, 4, none⟩ = some (.int .i64 o.lead) ∧ w'.cell? ⟨w.heap.size, 5, none⟩ = some (.int .i64 o.lag) ∧ Tch None_ X w') :=
      fun w' h => ⟨(h.cell (Nat.lt_of_lt_of_le z1 X1.size) (fun h => h)).trans k1, (h.cell (Nat.lt_of_lt_of_le z0 X1.size) (fun h => h)).trans k3, (h.cell (Nat.lt_of_lt_of_le z0 X1.size) (fun h => h)).trans k4,
        (h.cell (Nat.lt_of_lt_of_le z0 X1.size) (fun h => h)).trans k5, h⟩
    clear hpW hb ht c0 c1 q3 q4 q5 HP' k0
    go_wp2_with fail
    go_region_held3 (fun w' => w'.cell? ⟨p.pb, 1, none⟩ = some (.pointer (some ⟨p.rg, 0, none⟩)) ∧ w'.cell? ⟨w.heap.size, 3, none⟩ = some (.int .i64 o.frame) ∧
        w'.cell? ⟨w.heap.size, 4, none⟩ = some (.int .i64 o.lead) ∧ w'.cell? ⟨w.heap.size, 5, none⟩ = some (.int .i64 o.lag) ∧ Tch None_ X w')
      ((refine HT.out _ ?_; repeat (first | assumption | exact Tch.refl _ _ | refine Tch.drew ?_ | refine Tch.drewN ?_ _ | refine Tch.alloc ?_ _ | refine Tch.setCell ?_ (.inr (by first | exact Tch.size (by assumption) | (simp; done))) _ | refine Tch.then ?_ (by assumption))))
      (first
        | (go_at_call 21
           refine (HR'.out _ (PairAt.ref (hpX.keep ((((Tch.refl _ _).alloc _).drew))))).mono ?_
           rintro e w' ⟨rfl, ht2⟩
           have hbn := (Blk.drew (Blk.new X 27 #[.int .i64 0, .bool false])).keep ht2
           have n0 := hbn.cell 0
           have n1 := hbn.cell 1
           have n2 := hbn.frozen 0
           have n3 := hbn.frozen 1
           simp at n0 n1)
        | (go_at_call 21
           refine (HR'.out _ (PairAt.ref (hpX.keep (((Tch.refl _ _).drew))))).mono ?_
           rintro e w' ⟨rfl, ht2⟩))
    rotate_left
    · have Y1 : Tch None_ X ((w'.setCell ⟨X.heap.size, 0, none⟩ (.int .i64 to)).setCell ⟨X.heap.size, 1, none⟩ (.bool st)) :=
        ((((Tch.refl _ _).alloc _).drew.then ht2).setCell (p := ⟨X.heap.size, 0, none⟩) (.inr (Nat.le_refl _)) _).setCell (p := ⟨X.heap.size, 1, none⟩) (.inr (Nat.le_refl _)) _
      have Y2 : Blk ((w'.setCell ⟨X.heap.size, 0, none⟩ (.int .i64 to)).setCell ⟨X.heap.size, 1, none⟩ (.bool st)) X.heap.size 27 #[.int .i64 to, .bool st] := by
        simpa using (hbn.set_ 0 (.int .i64 to)).set_ 1 (.bool st)
      clear hbn n0 n1 n2 n3 ht2
      generalize (w'.setCell ⟨X.heap.size, 0, none⟩ (.int .i64 to)).setCell ⟨X.heap.size, 1, none⟩ (.bool st) = Y at *
      generalize X.heap.size = v' at Y2 ⊢
      have r0 := (X2.keep Y1).cell 0
      have r1 := (X2.keep Y1).cell 1
      have r2 := Y2.cell 0
      have r3 := Y2.cell 1
      simp at r0 r1 r2 r3
      go_wp2_with fail
      go_ret
      exact ⟨by simp, (htt.then X1).then Y1⟩
    · have Y1 : Tch None_ X (w'.alloc (.cells #[.int .i64 to, .bool st] 27)) := ((Tch.refl _ _).drew.then ht2).alloc _
      have Y2 := Blk.new w' 27 #[.int .i64 to, .bool st]
      clear ht2
      generalize w'.alloc (.cells #[.int .i64 to, .bool st] 27) = Y at *
      generalize w'.heap.size = v' at Y2 ⊢
      have r0 := (X2.keep Y1).cell 0
      have r1 := (X2.keep Y1).cell 1
      have r2 := Y2.cell 0
      have r3 := Y2.cell 1
      simp at r0 r1 r2 r3
      go_wp2_with fail
      go_ret
      exact ⟨by simp, (htt.then X1).then Y1⟩

end Go.Proofs.Ytcineclpmacfhaa
