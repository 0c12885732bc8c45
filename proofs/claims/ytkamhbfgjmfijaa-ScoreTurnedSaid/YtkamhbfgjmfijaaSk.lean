/-
  No statement is proved here: ScoreTurned: a walk of the law's code.
-/
import Derived.Test.YtkamhbfgjmfijaaSi
import Derived.Test.YtkamhbfgjmfijaaSj
namespace Go.Proofs.Ytkamhbfgjmfijaa
open Go.RowKit

theorem infoSc : (Try.prog.info? 23).map (fun i => (i.zero, i.size, i.bytes)) = some (some (.agg #[.int .i64 0, .int .i64 0, .int .i64 0, .int .i64 0]), 4, 32) := by kernel_rfl
theorem one_sc (w : World) (e : Sc) : Reads (w.alloc (.cells #[.int .i64 e.p, .int .i64 e.h, .int .i64 e.o, .int .i64 e.k] 23)) (w.heap.size + 1) 4 (some ⟨w.heap.size, 0, none⟩) 1 e.cells :=
  ⟨rfl, fun _ => ⟨_, rfl, by simp, fun j u hu => by rw [add_plain, cell_of_row _ _ _ _ _ (0, 0) (heap_alloc_new w _)]; simpa [Sc.cells] using hu⟩⟩
theorem rev_take {l : List Sc} {k : Nat} (h : k < l.length) : l.reverse.take (k + 1) = l.reverse.take k ++ [sl l (l.length - 1 - k)] := by
  rw [List.take_add_one, List.getElem?_reverse h, sl_get (by omega), List.getElem?_eq_getElem (by omega)]
  rfl
set_option maxRecDepth 100000 in
set_option maxHeartbeats 4000000 in
theorem Turned_any (n c : Nat) (A : Option Addr) (l : List Sc) (w : World) (hl : l.length = n) (hr : Reads w w.heap.size 4 A n (l.flatMap Sc.cells)) (hsz : n * 32 ≤ 140737488351232) :
    Calls Try.prog 6 #[.slice A n c] w fun e w' => e = .returned (.bool true) ∧ Tch None_ w w' := by
  obtain ⟨i0, hi0, hz0, hz1, hz2⟩ := info_parts infoSc
  have HR := Lib.hid hr
  have HL := Lib.hid hl
  clear hr hl
  go_enter Try.func6, Try.ntmps6
  go_wp2_with fail
  refine (awake_any w).mono ?_
  rintro e w1 ⟨rfl, t1⟩
  have HR1 := Lib.hid (HR.out.tch t1 (Nat.le_refl _) (fun _ _ h => h))
  have HRK := Lib.hid (rank_any l n c w.heap.size A w1 HR1.out HL.out t1.size)
  have HT1 := Lib.hid t1
  clear t1
  go_wp2_with fail
  refine HRK.out.mono ?_
  intro e w2 hpost
  obtain ⟨va, ea, rfl, t2, HPOST⟩ : ∃ va ea, e = .returned (.tuple #[va, .int .i64 ea]) ∧ Tch None_ w1 w2 ∧ Hid ((¬ good l ∧ va = .slice none 0 0 ∧ ea = 120) ∨ (good l ∧ ea = 0 ∧ ∃ zs, zs.Perm (List.range l.length) ∧ zs.Pairwise (Ahd l) ∧ w2.ownsRow w1.heap.size 3 1 va l.length (nums zs))) := by
    rcases hpost with ⟨h1, h2, h3⟩ | ⟨h1, v, zs, h2, h3, h4, h5, h6⟩
    · exact ⟨_, _, h2, h3, .inl ⟨h1, rfl, rfl⟩⟩
    · exact ⟨_, _, h2, h6, .inr ⟨h1, rfl, zs, h3, h4, h5⟩⟩
  have HT2 := Lib.hid (HT1.out.then t2)
  clear t2 HRK hpost
  go_wp2_with fail
  go_loopg [6, 7] n (fun gh s6 s7 wr => ∃ (k : Nat) (vin : Value) (iv : Int), vin = s6 ∧ s7 = .int .i64 iv ∧ iv = (n : Int) - 1 - k ∧ n - k = gh ∧ k ≤ n ∧ Hid (wr.ownsRow w2.heap.size 23 4 vin k ((l.reverse.take k).flatMap Sc.cells)) ∧ Hid (Tch None_ w2 wr))
  case atStart => exact ⟨0, _, _, rfl, by go_num, by omega, by omega, by omega, World.ownsRow_nil _ _ _ _, Tch.refl _ _⟩
  case round =>
    obtain ⟨k, vin, iv, rfl, rfl, hiv, rfl, hk, HRW, HT⟩ := hrel
    by_cases hlt : k < n
    · obtain ⟨j, hj⟩ : ∃ j : Nat, j = n - 1 - k := ⟨_, rfl⟩
      obtain rfl : iv = (j : Int) := by omega
      have hjn : j < n := by omega
      obtain ⟨b, o, rfl, hbl, x0, x1, x2, x3⟩ := ((HR.out.tch HT2.out (Nat.le_refl _) (fun _ _ h => h)).tch HT.out HT2.out.size (fun _ _ h => h)).sc HL.out j hjn
      have hx := HRW.out.alloc (.cells #[.int .i64 (sl l j).p, .int .i64 (sl l j).h, .int .i64 (sl l j).o, .int .i64 (sl l j).k] 23)
      have h63 : k + 1 ≤ maxLen := by simp only [maxLen]; omega
      have h64 : (k + 1) * 32 ≤ 140737488355328 := by omega
      have hsz2 : w2.heap.size ≤ wr.heap.size := HT.out.size
      obtain ⟨Av, cv, rfl, _, _⟩ := own_form HRW.out
      have HJ := Lib.hid hj
      have HIV := Lib.hid hiv
      clear hj hiv
      go_wp2_with (at_builtin; refine wpList_append_any _ rfl (.tmp 26) (.tmp 31) 32 rfl w2.heap.size 23 i0 _ 4 32 Try.underlying32 hi0 hz0 hz1 hz2 rfl (by omega) _ _ _ rfl hx (wr.heap.size + 1) (some ⟨wr.heap.size, 0, none⟩) 1 1 (sl l j).cells rfl (one_sc wr (sl l j)) (by simp [Sc.cells, Value.oneCell']) h63 h64 (by simp; omega) ?_; intro v3 w3 hown3 hg3 hat3; have HO3 := Lib.hid hown3; have HG3 := Lib.hid hg3; clear hx hown3 hg3 hat3)
      go_roundg (n - (k + 1))
      case measure => omega
      case rel =>
        have T3 : Tch (fun j => some j = (Value.slice Av k cv).ownBlock) wr w3 := (Tch.any ((Tch.refl None_ wr).alloc _)).grown HG3.out (fun j hj => .inl hj.symm)
        have hj := HJ.out
        refine ⟨k + 1, v3, (j : Int) - 1, rfl, by go_num, by omega, rfl, by omega, ?_, HT.out.trans T3 (fun i hi e => by have := (HRW.out.lt i e.symm).1; omega)⟩
        have h1 := HL.out
        rw [rev_take (by omega), h1, ← hj, List.flatMap_append]
        simpa [Hid] using HO3.out
    · obtain rfl : k = n := by omega
      obtain ⟨wo, rfl⟩ : ∃ wo : World, wo = wr := ⟨_, rfl⟩
      have hrev : l.reverse.take k = l.reverse := List.take_of_length_le (by rw [List.length_reverse, HL.out]; exact Nat.le_refl _)
      rw [hrev] at HRW
      obtain ⟨Av, cv, rfl, _, _⟩ := own_form HRW.out
      have hperm : l.Perm l.reverse := (List.reverse_perm l).symm
      have HRK := Lib.hid (rank_any l.reverse k cv wo.heap.size Av wo (Reads.of_own HRW.out) (by rw [List.length_reverse]; exact HL.out) (Nat.le_refl _))
      go_wp2_with fail
      refine HRK.out.mono ?_
      intro e w3 hpost
      rcases HPOST.out with ⟨hg, rfl, rfl⟩ | ⟨hg, rfl, zs, hz1', hz2', hz3'⟩
      · rcases hpost with ⟨h1, rfl, h3⟩ | ⟨h1, v, zs, h2, h3, h4, h5, h6⟩
        · have HT3 := Lib.hid h3
          clear HRK h3 hrev
          go_wp2_with fail
          go_loopg [10] 0 (fun gh s10 wx => s10 = .int .i64 0 ∧ gh = 0 ∧ wx = w3)
          case atStart => exact ⟨rfl, rfl, rfl⟩
          case round =>
            obtain ⟨rfl, rfl, rfl⟩ := hrel
            go_wp2_with fail
            go_ret
            exact ⟨rfl, (HT2.out.then HT.out).then HT3.out⟩
        · exact absurd (good_like hperm.symm h1) hg
      · rcases hpost with ⟨h1, rfl, h3⟩ | ⟨h1, v, zs', rfl, h3, h4, h5, h6⟩
        · exact absurd (good_like hperm hg) h1
        · have hlike := rank_like hperm hz1' hz2' h3 h4
          have hzl : ∀ y ∈ zs, y < k := fun y hy => by have := hz1'.mem_iff.1 hy; rw [HL.out] at this; simpa using this
          have hzl' : ∀ y ∈ zs', y < k := fun y hy => by have := h3.mem_iff.1 hy; rw [List.length_reverse, HL.out] at this; simpa using this
          have hln : zs.length = k := by have := hz1'.length_eq; rw [HL.out] at this; simpa using this
          have hln' : zs'.length = k := by have := h3.length_eq; rw [List.length_reverse, HL.out] at this; simpa using this
          rw [HL.out] at hz3'
          rw [List.length_reverse, HL.out] at h5
          have HRA := Lib.hid ((h6.row (HT.out.row hz3' (fun _ _ h => h)) (fun _ _ h => h)))
          have HRB := Lib.hid h5
          have HRT := Lib.hid (h6.row HRW.out (fun _ _ h => h))
          have HT3 := Lib.hid h6
          have HLK := Lib.hid hlike
          have HZ := Lib.hid hzl
          have HZ' := Lib.hid hzl'
          have HLN := Lib.hid hln
          have HLN' := Lib.hid hln'
          obtain ⟨Aa, ca, rfl, _, _⟩ := own_form HRA.out
          obtain ⟨Ab, cb, rfl, _, _⟩ := own_form HRB.out
          clear HRK h3 hrev h5 h6 hz3' hz1' hz2' h4 hlike hzl hzl' hln hln' HPOST
          go_wp2_with fail
          go_loopg [10] k (fun gh s10 wx => ∃ i : Nat, s10 = .int .i64 i ∧ k - i = gh ∧ i ≤ k ∧ Hid (Tch None_ w3 wx))
          case atStart => exact ⟨0, rfl, rfl, by omega, Tch.refl _ _⟩
          case round =>
            obtain ⟨i, rfl, rfl, hi, HTX⟩ := hrel
            by_cases hik : i < k
            · obtain ⟨da, csa, rfl, _⟩ := Blk.of_own HRA.out (by omega)
              obtain ⟨db, csb, rfl, _⟩ := Blk.of_own HRB.out (by omega)
              have ha := nums_at (HTX.out.row HRA.out (fun _ _ h => h)) hik
              have hb := nums_at (HTX.out.row HRB.out (fun _ _ h => h)) hik
              have hp : nl zs i < k := HZ.out _ (by have := HLN.out; simp [nl, show i < zs.length by omega])
              have hq : nl zs' i < k := HZ'.out _ (by have := HLN'.out; simp [nl, show i < zs'.length by omega])
              have hkey : key3 (sl l (nl zs i)) = key3 (sl l.reverse (nl zs' i)) := by
                have h1 := congrArg (fun x => x[i]?) HLK.out
                have h2 := HLN.out
                have h3 := HLN'.out
                simpa [nl, show i < zs.length by omega, show i < zs'.length by omega] using h1
              generalize nl zs i = p at *
              generalize nl zs' i = q at *
              have hall : Tch None_ w wr := ((HT2.out.then HT.out).then HT3.out).then HTX.out
              obtain ⟨b, o, rfl, hbl, x0, x1, x2, x3⟩ := (HR.out.tch hall (Nat.le_refl _) (fun _ _ h => h)).sc HL.out p hp
              obtain ⟨b', o', rfl, hbl', y0, y1, y2, y3⟩ := (Reads.of_own (HTX.out.row HRT.out (fun _ _ h => h))).sc (by rw [List.length_reverse]; exact HL.out) q hq
              unfold key3 at hkey
              simp only [Prod.mk.injEq] at hkey
              rw [← hkey.1] at y0
              rw [← hkey.2.1] at y2
              rw [← hkey.2.2] at y1
              have HALL := Lib.hid hall
              have hdb : db < wr.heap.size := ((HTX.out.row HRB.out (fun _ _ h => h)).lt db rfl).2
              clear hkey hall hbl
              go_wp2_with fail
              go_roundg (k - (i + 1))
              case measure => omega
              case rel => exact ⟨i + 1, by go_num, rfl, by omega, (HTX.out.alloc _).alloc _⟩
            · obtain rfl : i = k := by omega
              go_wp2_with fail
              go_ret
              exact ⟨rfl, ((HT2.out.then HT.out).then HT3.out).then HTX.out⟩
end Go.Proofs.Ytkamhbfgjmfijaa
