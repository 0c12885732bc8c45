/-
  No statement is proved here: what does comes to where the call is Marks (a walk of the code).
-/
import Derived.Test.YtcineclpmacfhaaDoes
namespace Go.Proofs.Ytcineclpmacfhaa
open Go.RowKit

set_option maxRecDepth 100000 in
set_option maxHeartbeats 2000000 in
theorem does_marks (p : PairD) (o : OpD) (w : World) (hp : PairAt w p) (hk : pickI o.kind 5 = 1) (b1 : -9223372036854775808 ≤ o.kind) (b2 : o.kind ≤ 9223372036854775807) :
    Calls Try.prog 12 #[.pointer (some ⟨p.pb, 0, none⟩), .agg #[.int .i64 o.kind, .int .i64 o.which, .int .i64 o.seat, .int .i64 o.frame, .int .i64 o.lead, .int .i64 o.lag]] w fun e w' =>
      e = .returned (.bool true) ∧ Tch None_ w w' := by
  have PK := Lib.hid (fun W => pick_any o.kind 5 W b1 b2 (by omega) (by omega))
  rw [hk] at PK
  clear hk
  go_enter Try.func12, Try.ntmps12
  go_wp2_with fail
  have hb := Blk.new w 36 #[.int .i64 o.kind, .int .i64 o.which, .int .i64 o.seat, .int .i64 o.frame, .int .i64 o.lead, .int .i64 o.lag]
  have ht : Tch None_ w (w.alloc (.cells #[.int .i64 o.kind, .int .i64 o.which, .int .i64 o.seat, .int .i64 o.frame, .int .i64 o.lead, .int .i64 o.lag] 36)) := (Tch.refl _ _).alloc _
  generalize w.alloc (.cells #[.int .i64 o.kind, .int .i64 o.which, .int .i64 o.seat, .int .i64 o.frame, .int .i64 o.lead, .int .i64 o.lag] 36) = W at *
  have hpW := hp.keep ht
  have c0 := hpW.box.cell 0
  have c1 := hpW.box.cell 1
  simp at c0 c1
  refine (PK.out W).mono ?_
  rintro e w1 ⟨rfl, rfl⟩
  go_wp2_with fail
  refine (Marks_any p.g p.m p.s p.l W hpW.own hpW.le).mono ?_
  rintro e w2 ⟨v, rfl, hown, ht2⟩
  have hp2 := hpW.keep ht2
  have c0 := hp2.box.cell 0
  have c1 := hp2.box.cell 1
  have c3 := hp2.ref.1.cell 1
  simp at c0 c1 c3
  obtain ⟨A', c', rfl, hc', _⟩ := own_form hown
  obtain ⟨g', cs, rfl, hge, _, hcm, hcs, htk, hbk⟩ := Blk.of_own hown (by have := hp.ge; omega)
  have hle := hp.le
  obtain ⟨n, hn⟩ : ∃ n, p.l.length = n := ⟨_, rfl⟩
  have hr1 : Reads w2 w2.heap.size 1 (some ⟨g', 0, none⟩) n (p.l.map (Value.int .i64)) := hn ▸ Reads.of_own hown
  have hr2 : Reads w2 w2.heap.size 1 (some ⟨p.rm, 0, none⟩) n (p.l.map (Value.int .i64)) := ⟨by simpa using hn, fun _ => ⟨_, rfl, hp2.ref.2.lt, fun j u hu => hp2.ref.2.reads j u (by simpa using hu)⟩⟩
  rw [hn] at hown hc' c3 hle ⊢
  have hn' := Lib.hid hn
  clear hn
  go_wp2_with fail
  refine (Same_any n c' n w2.heap.size _ _ p.l w2 hr1 hr2 (by omega)).mono ?_
  rintro e w3 ⟨rfl, ht3⟩
  have hown3 := ht3.row hown (fun _ _ h => h)
  have htt : Tch None_ W w3 := ht2.then ht3
  clear hr1 hr2 hbk hcs htk hown c0 c1 c3
  go_wp2_with fail
  go_loopw [9] (fun i wr => ∃ k : Nat, k ≤ n ∧ i = .int .i64 k ∧ (∃ xs, wr.ownsRow W.heap.size 2 1 (.slice (some ⟨g', 0, none⟩) n c') n xs) ∧ Tch None_ W wr) (fun i _ => n - (intOf i).toNat)
  case atStart => exact ⟨0, by omega, rfl, ⟨_, hown3⟩, htt⟩
  case round =>
    obtain ⟨k, hk, rfl, ⟨xs, hx⟩, htr⟩ := hrel
    by_cases hlt : k < n
    · have q0 := hx.cellAt k (by omega)
      have q1 := hx.frozenAt k
      have hxl := hx.1
      rw [List.getElem?_eq_getElem (show k < xs.length by omega)] at q0
      obtain ⟨u, hu⟩ : ∃ u, xs[k]'(by omega) = u := ⟨_, rfl⟩
      rw [hu] at q0
      have HST := Lib.hid (hx.stored k (.int .i64 (-(k : Int))))
      clear hu
      go_wp2_with fail
      go_roundw
      case rel => exact ⟨k + 1, by omega, by go_num, ⟨_, HST.out.1⟩, htr.setCell (.inr hge) _⟩
      case measure => simp [intOf]; omega
    · obtain ⟨i0, hi, hz0, hz1, hz2⟩ := info_parts info2
      have hpr := hpW.keep htr
      have c0 := hpr.box.cell 0
      have c1 := hpr.box.cell 1
      have c3 := hpr.ref.1.cell 1
      rw [hn'.out] at c3
      simp at c0 c1 c3
      have hox := hx.alloc (.cells #[.int .i64 5] 2)
      go_wp2_with (at_builtin; refine wpList_append_any _ rfl (.tmp 70) (.tmp 71) 33 rfl W.heap.size 2 i0 (.int .i64 0) 1 8 Try.underlying33 hi hz0 hz1 hz2 rfl (by omega) _ _ _ rfl hox (wr.heap.size + 1) (some ⟨wr.heap.size, 0, none⟩) 1 1 [.int .i64 5] rfl ⟨rfl, fun _ => ⟨_, rfl, by simp, fun j u hu => by rw [add_plain, cell_of_row _ _ _ _ _ (0, 0) (heap_alloc_new wr _)]; simpa using hu⟩⟩ (ints_one [5]) (by simp only [maxLen]; omega) (by omega) (by have := htr.size; simp; omega) ?_)
      intro v4 w4 hown4 hg4 hat4
      have ht4 : Tch None_ W w4 := (htr.alloc _).grown hg4 (fun k hk => .inr (by simp [Value.ownBlock] at hk; omega))
      have hp4 := hpW.keep ht4
      obtain ⟨A4, c4, rfl, _, _⟩ := own_form hown4
      have e0 := hp4.box.cell 0
      have e1 := hp4.box.cell 1
      have e3 := hp4.ref.1.cell 1
      rw [hn'.out] at e3
      simp at e0 e1 e3
      clear c0 c1 c3 hown4 hg4 hox hat4
      go_wp2_with fail
      go_ret
      exact ⟨rfl, ht.then ht4⟩

end Go.Proofs.Ytcineclpmacfhaa
