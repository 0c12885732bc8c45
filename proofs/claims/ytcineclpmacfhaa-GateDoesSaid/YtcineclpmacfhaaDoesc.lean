/-
  No statement is proved here: the law GateDoes returns true (a walk of the code).
-/
import Derived.Test.YtcineclpmacfhaaDoesb
namespace Go.Proofs.Ytcineclpmacfhaa
open Go.RowKit

theorem info38 : (Try.prog.info? 38).map (fun i => (i.zero, i.size, i.bytes)) = some (some (.pointer none), 1, 8) := by kernel_rfl

theorem does_any (p : PairD) (o : OpD) (w : World) (hp : PairAt w p) (b1 : -9223372036854775808 ≤ o.kind) (b2 : o.kind ≤ 9223372036854775807) :
    Calls Try.prog 12 #[.pointer (some ⟨p.pb, 0, none⟩), .agg #[.int .i64 o.kind, .int .i64 o.which, .int .i64 o.seat, .int .i64 o.frame, .int .i64 o.lead, .int .i64 o.lag]] w fun e w' =>
      e = .returned (.bool true) ∧ (∃ l, PairAt w' (p.with l)) ∧ Tch (TwoOf p) w w' := by
  have hb := pickI_bd o.kind 5 (by omega)
  have h0 : pickI o.kind 5 = 0 ∨ pickI o.kind 5 = 1 ∨ pickI o.kind 5 = 3 ∨ (pickI o.kind 5 = 2 ∨ pickI o.kind 5 = 4) := by omega
  rcases h0 with h | h | h | h
  · exact (does_mark p o w hp h b1 b2).mono fun _ _ h => ⟨h.1, ⟨_, h.2.1⟩, h.2.2⟩
  · exact (does_marks p o w hp h b1 b2).mono fun _ _ h => ⟨h.1, ⟨p.l, hp.keep h.2⟩, h.2.any⟩
  · exact (does_plan p o w hp h b1 b2).mono fun _ _ h => ⟨h.1, ⟨p.l, hp.keep h.2⟩, h.2.any⟩
  · exact (does_least p o w hp h b1 b2).mono fun _ _ h => ⟨h.1, ⟨p.l, hp.keep h.2⟩, h.2.any⟩

def idsOf (ps : List PairD) : List Nat := ps.flatMap fun p => [p.m, p.rm]
/-- All pairs in memory, apart from each other, their marks' blocks from base on. -/
structure AllAt (w : World) (base : Nat) (ps : List PairD) : Prop where
  at_ : ∀ p ∈ ps, PairAt w p
  ge : ∀ i ∈ idsOf ps, base ≤ i
  nd : (idsOf ps).Nodup
theorem AllAt.keep {w w' : World} {base : Nat} {ps : List PairD} (h : AllAt w base ps) (ht : Tch None_ w w') : AllAt w' base ps := ⟨fun p hp => (h.at_ p hp).keep ht, h.ge, h.nd⟩
theorem AllAt.lt {w : World} {base : Nat} {ps : List PairD} (h : AllAt w base ps) : ∀ i ∈ idsOf ps, i < w.heap.size := by
  intro i hi
  obtain ⟨p, hp, hi⟩ := List.mem_flatMap.1 hi
  have := h.at_ p hp
  simp only [List.mem_cons, List.not_mem_nil, or_false] at hi
  rcases hi with rfl | rfl
  · exact this.own.2.lt
  · exact this.ref.2.lt
theorem AllAt.snoc {w w' : World} {base : Nat} {ps : List PairD} (h : AllAt w base ps) (ht : Tch None_ w w') {d : PairD} (hd : PairAt w' d) (h1 : w.heap.size ≤ d.m) (h2 : w.heap.size ≤ d.rm) (hb : base ≤ w.heap.size) : AllAt w' base (ps ++ [d]) := by
  have hlt := h.lt
  refine ⟨?_, ?_, ?_⟩
  · intro p hp
    rcases List.mem_append.1 hp with hp | hp
    · exact (h.at_ p hp).keep ht
    · simp at hp; subst hp; exact hd
  · intro i hi
    simp only [idsOf, List.flatMap_append, List.mem_append] at hi
    rcases hi with hi | hi
    · exact h.ge i hi
    · simp at hi; omega
  · simp only [idsOf, List.flatMap_append]
    refine List.nodup_append.2 ⟨h.nd, by simpa using hd.ne, ?_⟩
    intro a ha b hb' e
    have := hlt a ha
    simp at hb'
    omega
theorem ids_set (ps : List PairD) (j : Nat) (hj : j < ps.length) (l : List Int) : idsOf (ps.set j (ps[j].with l)) = idsOf ps := by
  induction ps generalizing j with
  | nil => simp at hj
  | cons p ps ih =>
    cases j with
    | zero => simp [idsOf, PairD.with]
    | succ j =>
      have := ih j (by simpa using hj)
      simp only [idsOf] at this
      simp [idsOf, this]
theorem ids_apart (ps : List PairD) (h : (idsOf ps).Nodup) (i j : Nat) (hi : i < ps.length) (hj : j < ps.length) (hne : i ≠ j) :
    ps[i].m ≠ ps[j].m ∧ ps[i].m ≠ ps[j].rm ∧ ps[i].rm ≠ ps[j].m ∧ ps[i].rm ≠ ps[j].rm := by
  induction ps generalizing i j with
  | nil => simp at hi
  | cons p ps ih =>
    simp only [idsOf, List.flatMap_cons] at h
    have h' := List.nodup_append.1 h
    have mem : ∀ k (hk : k < ps.length), ps[k].m ∈ ps.flatMap (fun p => [p.m, p.rm]) ∧ ps[k].rm ∈ ps.flatMap (fun p => [p.m, p.rm]) := fun k hk =>
      ⟨List.mem_flatMap.2 ⟨ps[k], List.getElem_mem hk, by simp⟩, List.mem_flatMap.2 ⟨ps[k], List.getElem_mem hk, by simp⟩⟩
    cases i with
    | zero =>
      cases j with
      | zero => exact absurd rfl hne
      | succ j =>
        have hj' : j < ps.length := by simpa using hj
        have a1 := h'.2.2 p.m (by simp) _ (mem j hj').1
        have a2 := h'.2.2 p.m (by simp) _ (mem j hj').2
        have a3 := h'.2.2 p.rm (by simp) _ (mem j hj').1
        have a4 := h'.2.2 p.rm (by simp) _ (mem j hj').2
        exact ⟨a1, a2, a3, a4⟩
    | succ i =>
      have hi' : i < ps.length := by simpa using hi
      cases j with
      | zero =>
        have a1 := h'.2.2 p.m (by simp) _ (mem i hi').1
        have a2 := h'.2.2 p.m (by simp) _ (mem i hi').2
        have a3 := h'.2.2 p.rm (by simp) _ (mem i hi').1
        have a4 := h'.2.2 p.rm (by simp) _ (mem i hi').2
        exact ⟨fun e => a1 e.symm, fun e => a3 e.symm, fun e => a2 e.symm, fun e => a4 e.symm⟩
      | succ j => exact ih h'.2.1 i j hi' (by simpa using hj) (by omega)
theorem AllAt.step {w w' : World} {base : Nat} {ps : List PairD} (h : AllAt w base ps) (j : Nat) (hj : j < ps.length) (ht : Tch (TwoOf ps[j]) w w') {l : List Int} (hp : PairAt w' (ps[j].with l)) :
    AllAt w' base (ps.set j (ps[j].with l)) := by
  refine ⟨?_, by rw [ids_set ps j hj l]; exact h.ge, by rw [ids_set ps j hj l]; exact h.nd⟩
  intro p hmem
  obtain ⟨i, hi, rfl⟩ := List.getElem_of_mem hmem
  rw [List.length_set] at hi
  by_cases e : j = i
  · subst e; simpa using hp
  · rw [List.getElem_set_ne e]
    have hi0 := h.at_ _ (List.getElem_mem hi)
    have hj0 := h.at_ _ (List.getElem_mem hj)
    obtain ⟨a1, a2, a3, a4⟩ := ids_apart ps h.nd i j hi hj (fun h => e h.symm)
    refine hi0.tch ht ?_ ?_ ?_ ?_ ?_
    · rintro (e | e)
      · exact hi0.box.ne_ hj0.own.2 (by decide) e
      · exact hi0.box.ne_ hj0.ref.2 (by decide) e
    · rintro (e | e)
      · exact hi0.own.1.ne_ hj0.own.2 (by decide) e
      · exact hi0.own.1.ne_ hj0.ref.2 (by decide) e
    · rintro (e | e)
      · exact a1 e
      · exact a2 e
    · rintro (e | e)
      · exact hi0.ref.1.ne_ hj0.own.2 (by decide) e
      · exact hi0.ref.1.ne_ hj0.ref.2 (by decide) e
    · rintro (e | e)
      · exact a3 e
      · exact a4 e
theorem AllAt.grown {w w' : World} {base B : Nat} {ps : List PairD} (h : AllAt w base ps) {v : Value} {n : Nat} {xs : List Value} (ho : w.ownsRow B 38 1 v n xs) (hg : w.grownBy w' v.ownBlock) : AllAt w' base ps := by
  refine ⟨fun p hp => ?_, h.ge, h.nd⟩
  have h0 := h.at_ p hp
  have ht : Tch (fun k => some k = v.ownBlock) w w' := (Tch.refl _ _).grown hg (fun k hk => .inl hk.symm)
  have no : ∀ k t cs, Blk w k t cs → t ≠ 38 → ¬ some k = v.ownBlock := by
    intro k t cs hb hne e
    rcases ho.2 with ⟨rfl, _⟩ | ⟨g, cap, cur, rfl, _, hh, _⟩
    · simp [Value.ownBlock] at e
    · simp [Value.ownBlock] at e
      subst e
      exact hne (Blk.eq hb (t' := 38) hh).1
  exact h0.tch ht (no _ _ _ h0.box (by decide)) (no _ _ _ h0.own.1 (by decide)) (no _ _ _ h0.own.2 (by decide)) (no _ _ _ h0.ref.1 (by decide)) (no _ _ _ h0.ref.2 (by decide))
def ptrs (ps : List PairD) : List Value := ps.map fun p => .pointer (some ⟨p.pb, 0, none⟩)
theorem ptrs_set (ps : List PairD) (j : Nat) (hj : j < ps.length) (l : List Int) : ptrs (ps.set j (ps[j].with l)) = ptrs ps := by
  simp only [ptrs, List.map_set]
  apply List.ext_getElem? 
  intro i
  by_cases e : j = i
  · subst e; simp [hj, PairD.with]
  · rw [List.getElem?_set_ne e]
/-- a row of pointers is not touched -/
theorem AllAt.row {w w' : World} {base B : Nat} {ps : List PairD} (h : AllAt w base ps) (j : Nat) (hj : j < ps.length) (ht : Tch (TwoOf ps[j]) w w') {v : Value} {n : Nat} {xs : List Value} (ho : w.ownsRow B 38 1 v n xs) : w'.ownsRow B 38 1 v n xs := by
  refine ht.row ho ?_
  have hj0 := h.at_ _ (List.getElem_mem hj)
  intro k hk
  rcases ho.2 with ⟨rfl, _⟩ | ⟨g, cap, cur, rfl, _, hh, _⟩
  · simp [Value.ownBlock] at hk
  · simp [Value.ownBlock] at hk
    subst hk
    rintro (e | e)
    · exact Blk.ne_ (t := 38) hh hj0.own.2 (by decide) e
    · exact Blk.ne_ (t := 38) hh hj0.ref.2 (by decide) e

set_option maxRecDepth 100000 in
set_option maxHeartbeats 4000000 in
theorem Does_any (n c B : Nat) (A : Option Addr) (ops : List OpD) (w : World) (hB : B ≤ w.heap.size) (hr : Reads w B 6 A n (ops.flatMap OpD.vals)) (hn : ops.length = n) (hsz : n * 48 ≤ 140737488351232)
    (hbd : ∀ o ∈ ops, -9223372036854775808 ≤ o.kind ∧ o.kind ≤ 9223372036854775807 ∧ -9223372036854775808 ≤ o.which ∧ o.which ≤ 9223372036854775807) :
    Calls Try.prog 5 #[.slice A n c] w fun e w' => e = .returned (.bool true) ∧ Tch None_ w w' := by
  have Hbd := Lib.hid hbd
  clear hbd
  go_enter Try.func5, Try.ntmps5
  go_wp2_with fail
  refine (made_yes 3 1 w (by omega) (by omega) (by omega)).mono ?_
  rintro e w1 ⟨d, rfl, hd, h1, h2, ht⟩
  go_wp2_with fail
  have S1 : AllAt (w1.alloc (.cells #[.pointer (some ⟨d.pb, 0, none⟩)] 38)) w.heap.size [d] :=
    ⟨fun p hp => by simp at hp; subst hp; exact hd.keep ((Tch.refl _ _).alloc _), fun i hi => by simp [idsOf] at hi; omega, by simpa [idsOf] using hd.ne⟩
  have S2 := own_base (own_full w1 38 #[.pointer (some ⟨d.pb, 0, none⟩)] 1 rfl (by simp [maxLen])) ht.size
  have S3 : Tch None_ w (w1.alloc (.cells #[.pointer (some ⟨d.pb, 0, none⟩)] 38)) := ht.alloc _
  go_loopw [5, 6] (fun v i wr => ∃ k : Nat, k ≤ n ∧ i = .int .i64 k ∧ ∃ ps : List PairD, 0 < ps.length ∧ ps.length ≤ k + 1 ∧ wr.ownsRow w.heap.size 38 1 v ps.length (ptrs ps) ∧ AllAt wr w.heap.size ps ∧ Tch None_ w wr) (fun _ i _ => n - (intOf i).toNat)
  case atStart => exact ⟨0, by omega, rfl, [d], by simp, by simp, S2, S1, S3⟩
  case round =>
    obtain ⟨k, hk, rfl, ps, hp0, hpk, hown, hall, htr⟩ := hrel
    clear hd h1 h2 ht S1 S2 S3
    by_cases hlt : k < n
    · have hrr := hr.tch htr hB (fun _ _ h => h)
      obtain ⟨o, ho⟩ : ∃ o, ops[k]'(by omega) = o := ⟨_, rfl⟩
      obtain ⟨b, off, rfl, _, c0⟩ := hrr.field OpD.six hn k 0 hlt (by omega)
      obtain ⟨b', off', e', _, c1⟩ := hrr.field OpD.six hn k 1 hlt (by omega)
      simp only [Option.some.injEq, Addr.mk.injEq, and_true] at e'
      obtain ⟨rfl, rfl⟩ := e'
      obtain ⟨b', off', e', _, c2⟩ := hrr.field OpD.six hn k 2 hlt (by omega)
      simp only [Option.some.injEq, Addr.mk.injEq, and_true] at e'
      obtain ⟨rfl, rfl⟩ := e'
      obtain ⟨b', off', e', _, c3⟩ := hrr.field OpD.six hn k 3 hlt (by omega)
      simp only [Option.some.injEq, Addr.mk.injEq, and_true] at e'
      obtain ⟨rfl, rfl⟩ := e'
      obtain ⟨b', off', e', _, c4⟩ := hrr.field OpD.six hn k 4 hlt (by omega)
      simp only [Option.some.injEq, Addr.mk.injEq, and_true] at e'
      obtain ⟨rfl, rfl⟩ := e'
      obtain ⟨b', off', e', _, c5⟩ := hrr.field OpD.six hn k 5 hlt (by omega)
      simp only [Option.some.injEq, Addr.mk.injEq, and_true] at e'
      obtain ⟨rfl, rfl⟩ := e'
      rw [ho] at c0 c1 c2 c3 c4 c5
      obtain ⟨b1, b2, b3, b4⟩ := Hbd.out o (by rw [← ho]; exact List.getElem_mem _)
      simp [OpD.vals] at c0 c1 c2 c3 c4 c5
      clear hrr ho
      go_wp2_with fail
      have hb := Blk.new wr 36 #[.int .i64 o.kind, .int .i64 o.which, .int .i64 o.seat, .int .i64 o.frame, .int .i64 o.lead, .int .i64 o.lag]
      have hW : Tch None_ wr (wr.alloc (.cells #[.int .i64 o.kind, .int .i64 o.which, .int .i64 o.seat, .int .i64 o.frame, .int .i64 o.lead, .int .i64 o.lag] 36)) := (Tch.refl _ _).alloc _
      generalize wr.alloc (.cells #[.int .i64 o.kind, .int .i64 o.which, .int .i64 o.seat, .int .i64 o.frame, .int .i64 o.lead, .int .i64 o.lag] 36) = W at *
      generalize wr.heap.size = ob at *
      have hown' := hW.row hown (fun _ _ h => h)
      have hall' := hall.keep hW
      have htr' := htr.then hW
      have q0 := hb.cell 0
      have q1 := hb.cell 1
      have q2 := hb.cell 2
      have q3 := hb.cell 3
      have q4 := hb.cell 4
      have q5 := hb.cell 5
      simp at q0 q1 q2 q3 q4 q5
      have z0 := hb.lt
      have hwW := htr'.size
      clear c0 c1 c2 c3 c4 c5 hown hall htr hW hb
      refine (pick_any o.kind 5 W b1 b2 (by omega) (by omega)).mono ?_
      rintro e w2 ⟨rfl, rfl⟩
      by_cases h4 : pickI o.kind 5 = 4
      · rw [h4]
        clear h4
        cases hnb : newB o.seat o.lag with
        | false =>
          go_wp2_with fail
          refine (made_no o.seat o.lag W hnb).mono ?_
          rintro e w2 ⟨rfl, rfl⟩
          clear hnb
          go_wp2_with fail
          go_roundw
          case rel => exact ⟨k + 1, by omega, by go_num, ps, hp0, by omega, hown', hall', htr'⟩
          case measure => simp [intOf]; omega
        | true =>
          obtain ⟨m1, m2, m3, m4⟩ := newB_yes hnb
          obtain ⟨pp, hpp⟩ := Int.eq_ofNat_of_zero_le (show 0 ≤ o.seat by omega)
          obtain ⟨ss, hss⟩ := Int.eq_ofNat_of_zero_le m3
          have MY := made_yes pp ss W (by omega) (by omega) (by omega)
          rw [← hpp, ← hss] at MY
          have MY' := Lib.hid MY
          clear hnb m1 m2 m3 m4 hpp hss MY
          obtain ⟨i0, hi, hz0, hz1, hz2⟩ := info_parts info38
          go_wp2_with fail
          refine MY'.out.mono ?_
          rintro e w2 ⟨d2, rfl, hd2, g1, g2, ht2⟩
          have hown2 := ht2.row hown' (fun _ _ h => h)
          have hall2 := hall'.snoc ht2 hd2 g1 g2 hwW
          have htr2 := htr'.then ht2
          have hox := hown2.alloc (.cells #[.pointer (some ⟨d2.pb, 0, none⟩)] 38)
          clear q0 q1 q2 q3 q4 q5
          go_wp2_with (at_builtin; refine wpList_append_any _ rfl (.tmp 52) (.tmp 54) 41 rfl w.heap.size 38 i0 (.pointer none) 1 8 Try.underlying41 hi hz0 hz1 hz2 rfl (by omega) _ _ _ rfl hox (w2.heap.size + 1) (some ⟨w2.heap.size, 0, none⟩) 1 1 [.pointer (some ⟨d2.pb, 0, none⟩)] rfl ⟨rfl, fun _ => ⟨_, rfl, by simp, fun j u hu => by rw [add_plain, cell_of_row _ _ _ _ _ (0, 0) (heap_alloc_new w2 _)]; simpa using hu⟩⟩ (by simp [Value.oneCell']) (by simp only [maxLen]; omega) (by omega) (by have := htr2.size; simp; omega) ?_)
          intro v4 w4 hown4 hg4 hat4
          have ht4 : Tch None_ w w4 := (htr2.alloc _).grown hg4 (fun k hk => .inr ((hown2.lt k hk).1))
          have hall4 : AllAt w4 w.heap.size (ps ++ [d2]) := by
            have hx := hall2.keep ((Tch.refl None_ w2).alloc (.cells #[.pointer (some ⟨d2.pb, 0, none⟩)] 38))
            exact hx.grown hox hg4
          go_wp2_with fail
          go_roundw
          case rel => exact ⟨k + 1, by omega, by go_num, ps ++ [d2], by simp, by simp; omega, by simpa [ptrs] using hown4, hall4, ht4⟩
          case measure => simp [intOf]; omega
      · have h4' : (pickI o.kind 5 == 4) = false := by simpa using h4
        obtain ⟨kv, hkv⟩ : ∃ kv, pickI o.kind 5 = kv := ⟨_, rfl⟩
        rw [hkv] at h4' ⊢
        clear h4 hkv
        have hpb := pickI_bd o.which ps.length (by omega)
        obtain ⟨j, hj⟩ := Int.eq_ofNat_of_zero_le hpb.1
        have hjl : j < ps.length := by omega
        have PK := fun W => pick_any o.which ps.length W b3 b4 (by omega) (by omega)
        rw [hj] at PK
        have PK' := Lib.hid PK
        clear hj hpb PK
        obtain ⟨A', c', rfl, hc', _⟩ := own_form hown'
        obtain ⟨g', cs, rfl, hge, _, hcm, hcs, htk, hbk⟩ := Blk.of_own hown' hp0
        have c0 : W.cell? ⟨g', j, none⟩ = some (.pointer (some ⟨ps[j].pb, 0, none⟩)) := by
          rw [hbk.cell]
          have := congrArg (·[j]?) htk
          simp only [List.getElem?_take, Nat.mul_one] at this
          rw [if_pos hjl] at this
          simpa [ptrs, hjl] using this
        clear htk hbk hcs
        go_wp2_with fail
        go_still_tail 9, (by kernel_rfl)
        still_call ((PK'.out _).mono fun _ _ h => ⟨h.1, h.2.symm⟩)
        repeat still_step
        try refine wpStill_nil ?_
        change wpList _ _ _ _ _ W.drew
        clear q0 q1 q2 q3 q4 q5 c0
        go_wp2_with fail
        refine (does_any ps[j] o W.drew ((hall'.at_ _ (List.getElem_mem hjl)).keep (Tch.refl _ _).drew) b1 b2).mono ?_
        rintro e w2 ⟨rfl, ⟨l, hpl⟩, ht2⟩
        have ht2' : Tch (TwoOf ps[j]) W w2 := (Tch.refl _ _).drew.then ht2
        have hall2 := hall'.step j hjl ht2' hpl
        have hown2 := hall'.row j hjl ht2' hown'
        have htr2 : Tch None_ w w2 := htr'.trans ht2' (fun i hi e => by
          have g1 := hall'.ge ps[j].m (List.mem_flatMap.2 ⟨ps[j], List.getElem_mem hjl, by simp⟩)
          have g2 := hall'.ge ps[j].rm (List.mem_flatMap.2 ⟨ps[j], List.getElem_mem hjl, by simp⟩)
          rcases e with e | e <;> omega)
        go_wp2_with fail
        go_roundw
        case rel => exact ⟨k + 1, by omega, by go_num, ps.set j (ps[j].with l), by simpa using hp0, by simp; omega, by rw [ptrs_set ps j hjl l]; simpa using hown2, hall2, htr2⟩
        case measure => simp [intOf]; omega
    · obtain ⟨A', c', rfl, hc', _⟩ := own_form hown
      have hpn : ps.length ≤ n + 1 := by omega
      clear hr hpk
      go_wp2_with fail
      go_loopw [11] (fun i wr => ∃ k : Nat, k ≤ ps.length ∧ i = .int .i64 k ∧ ∃ qs : List PairD, qs.length = ps.length ∧ wr.ownsRow w.heap.size 38 1 (.slice A' ps.length c') ps.length (ptrs qs) ∧ AllAt wr w.heap.size qs ∧ Tch None_ w wr) (fun i _ => ps.length - (intOf i).toNat)
      case atStart => exact ⟨0, by omega, rfl, ps, rfl, hown, hall, htr⟩
      case round =>
        clear hown hall htr
        obtain ⟨j, hj, rfl, qs, hq, hown, hall, htr⟩ := hrel
        by_cases hjn : j < ps.length
        · have hjl : j < qs.length := by omega
          obtain ⟨g', cs, hA, hge, _, hcm, hcs, htk, hbk⟩ := Blk.of_own hown (by omega)
          subst hA
          have c0 : wr.cell? ⟨g', j, none⟩ = some (.pointer (some ⟨qs[j].pb, 0, none⟩)) := by
            rw [hbk.cell]
            have := congrArg (·[j]?) htk
            simp only [List.getElem?_take, Nat.mul_one] at this
            rw [if_pos hjn] at this
            simpa [ptrs, hjl] using this
          clear htk hbk hcs
          go_wp2_with fail
          refine (does_any qs[j] ⟨1, 0, 0, 0, 0, 0⟩ wr (hall.at_ _ (List.getElem_mem hjl)) (by decide) (by decide)).mono ?_
          rintro e w2 ⟨rfl, ⟨l, hpl⟩, ht2⟩
          have hall2 := hall.step j hjl ht2 hpl
          have hown2 := hall.row j hjl ht2 hown
          have htr2 : Tch None_ w w2 := htr.trans ht2 (fun i hi e => by
            have g1 := hall.ge qs[j].m (List.mem_flatMap.2 ⟨qs[j], List.getElem_mem hjl, by simp⟩)
            have g2 := hall.ge qs[j].rm (List.mem_flatMap.2 ⟨qs[j], List.getElem_mem hjl, by simp⟩)
            rcases e with e | e <;> omega)
          rw [← ptrs_set qs j hjl l] at hown2
          have hjl' : j < (qs.set j (qs[j].with l)).length := by simpa using hjl
          have hq' : (qs.set j (qs[j].with l)).length = ps.length := by simpa using hq
          clear c0 hown hall htr ht2 hpl
          generalize qs.set j (qs[j].with l) = rs at *
          obtain ⟨g2, cs, hA, _, _, _, hcs, htk, hbk⟩ := Blk.of_own hown2 (by omega)
          simp only [Option.some.injEq, Addr.mk.injEq, and_true] at hA
          subst hA
          have c0 : w2.cell? ⟨g', j, none⟩ = some (.pointer (some ⟨rs[j].pb, 0, none⟩)) := by
            rw [hbk.cell]
            have := congrArg (·[j]?) htk
            simp only [List.getElem?_take, Nat.mul_one] at this
            rw [if_pos hjn] at this
            simpa [ptrs, hjl'] using this
          clear htk hbk hcs
          go_wp2_with fail
          refine (does_any rs[j] ⟨2, 0, 0, 0, 0, 0⟩ w2 (hall2.at_ _ (List.getElem_mem hjl')) (by decide) (by decide)).mono ?_
          rintro e w3 ⟨rfl, ⟨l3, hpl3⟩, ht3⟩
          have hall3 := hall2.step j hjl' ht3 hpl3
          have hown3 := hall2.row j hjl' ht3 hown2
          have htr3 : Tch None_ w w3 := htr2.trans ht3 (fun i hi e => by
            have g1 := hall2.ge rs[j].m (List.mem_flatMap.2 ⟨rs[j], List.getElem_mem hjl', by simp⟩)
            have g2 := hall2.ge rs[j].rm (List.mem_flatMap.2 ⟨rs[j], List.getElem_mem hjl', by simp⟩)
            rcases e with e | e <;> omega)
          go_wp2_with fail
          go_roundw
          case rel => exact ⟨j + 1, by omega, by go_num, rs.set j (rs[j].with l3), by simpa using hq', by rw [ptrs_set rs j hjl' l3]; exact hown3, hall3, htr3⟩
          case measure => simp [intOf]; omega
        · go_wp2_with fail
          go_ret
          exact ⟨rfl, htr⟩

end Go.Proofs.Ytcineclpmacfhaa
