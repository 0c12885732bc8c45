/-
  No statement is proved here: BagDoubles: a walk of the law's code.
-/
import Derived.Test.YtpjlfmaebkjojaaBrings
import Derived.Test.YtpjlfmaebkjojaaFlight
namespace Go.Proofs.Ytpjlfmaebkjojaa
open Go.RowKit Go.Maps

/-- The i-th of the parcels that are alike. -/
def mkD (l : List Int) (V : Nat → Value) (i : Nat) : Par := ⟨((i + 1 : Nat) : Int), 4, 5, l, V i⟩
theorem mkD_snoc (l : List Int) (V : Nat → Value) (v : Value) (i : Nat) :
    (List.range i).map (mkD l V) ++ [⟨((i + 1 : Nat) : Int), 4, 5, l, v⟩] = (List.range (i + 1)).map (mkD l fun j => if j = i then v else V j) := by
  rw [List.range_succ, List.map_append]
  congr 1
  · apply List.map_congr_left
    intro j hj
    have : j < i := by simpa using hj
    simp [mkD, show j ≠ i by omega]
  · simp [mkD]
theorem range_split (j m : Nat) (h : j < m) : List.range m = List.range j ++ j :: (List.range (m - j - 1)).map (fun i => j + 1 + i) := by
  have e : m = j + ((m - j - 1) + 1) := by omega
  conv => lhs; rw [e]
  rw [List.range_add, List.range_succ_eq_map, List.map_cons, List.map_map]
  congr 1
  simp only [Nat.add_zero, List.cons.injEq, true_and]
  apply List.map_congr_left
  intro i _
  simp [Function.comp]
  omega
/-- What is in flight when the j-th is gone. -/
def goneD (l : List Int) (V : Nat → Value) (m j : Nat) : List Par := (List.range j).map (mkD l V) ++ ((List.range (m - j - 1)).map (fun i => j + 1 + i)).map (mkD l V)
theorem goneD_split (l : List Int) (V : Nat → Value) (m j : Nat) (h : j < m) : (List.range m).map (mkD l V) = (List.range j).map (mkD l V) ++ mkD l V j :: ((List.range (m - j - 1)).map (fun i => j + 1 + i)).map (mkD l V) := by
  rw [range_split j m h, List.map_append, List.map_cons]
theorem goneD_len (l : List Int) (V : Nat → Value) (m j : Nat) (h : j < m) : (goneD l V m j).length = m - 1 := by
  unfold goneD; simp; omega
theorem goneD_get (l : List Int) (V : Nat → Value) (m j i : Nat) (h : j < m) (hi : i < m - 1) : (goneD l V m j)[i]'(by rw [goneD_len l V m j h]; exact hi) = mkD l V (if i < j then i else i + 1) := by
  unfold goneD
  by_cases hij : i < j
  · rw [List.getElem_append_left (by simpa using hij)]
    simp [hij]
  · rw [List.getElem_append_right (by simp; omega)]
    simp only [List.length_map, List.length_range, List.getElem_map, List.getElem_range, if_neg hij]
    congr 1
    omega

theorem own_at4 {w : World} {base n c : Nat} {A : Option Addr} {fs : List Par} (h : w.ownsRow base 31 4 (.slice A n c) n (fs.flatMap Par.cells)) (hn : fs.length = n) (i : Nat) (hi : i < n) :
    ∃ b o, A = some ⟨b, o, none⟩ ∧ w.cell? ⟨b, o + i * 4, none⟩ = some (.int .i64 (fs[i]'(by omega)).no) ∧ w.cell? ⟨b, o + i * 4 + 1, none⟩ = some (.int .i64 (fs[i]'(by omega)).frm) ∧ w.cell? ⟨b, o + i * 4 + 2, none⟩ = some (.int .i64 (fs[i]'(by omega)).to) ∧ w.cell? ⟨b, o + i * 4 + 3, none⟩ = some (fs[i]'(by omega)).v := by
  have hr := Reads.of_own h
  obtain ⟨b, o, hA, hb, h0⟩ := hr.field Par.four hn i 0 hi (by omega)
  have hh : ∀ j, j < 4 → w.cell? ⟨b, o + i * 4 + j, none⟩ = (Par.cells (fs[i]'(by omega)))[j]? := by
    intro j hj
    obtain ⟨b', o', hA', _, h1⟩ := hr.field Par.four hn i j hi hj
    rw [hA] at hA'
    injection hA' with hA'
    injection hA' with e1 e2
    subst e1 e2
    exact h1
  exact ⟨b, o, hA, hh 0 (by omega), hh 1 (by omega), hh 2 (by omega), hh 3 (by omega)⟩

set_option maxRecDepth 100000 in
set_option maxHeartbeats 4000000 in
theorem Doubles_any (n c k kc : Nat) (A O : Option Addr) (l times : List Int) (drop : Int) (w : World) (hr : Reads w w.heap.size 1 A n (u8s l)) (hn : n ≤ 140737488351232) (ht : Reads w w.heap.size 1 O k (times.flatMap zOne)) (htl : times.length = k)
    (hk : k ≤ 1048576) (htb : ∀ x ∈ times, -9223372036854775808 ≤ x ∧ x ≤ 9223372036854775807) (hd1 : -9223372036854775808 ≤ drop) (hd2 : drop ≤ 9223372036854775807) :
    Calls Try.prog 5 #[.slice A n c, .slice O k kc, .int .i64 drop] w fun e w' => e = .returned (.bool true) ∧ Tch None_ w w' := by
  have HR := Lib.hid hr
  have HTI := Lib.hid ht
  have HTL := Lib.hid htl
  have HTB := Lib.hid htb
  clear hr ht htl htb
  go_enter Try.func5, Try.ntmps5
  go_wp2_with fail
  refine (awake_any w).mono ?_
  rintro e w1 ⟨rfl, t1⟩
  go_wp2_with fail
  refine (New_any w1).mono ?_
  rintro e w2 ⟨g, mb, rfl, hb, hgg, hmm, t2⟩
  have hb := hb w1.heap.size
  have T2 : Tch None_ w w2 := t1.then t2
  have s1 := t1.size
  have s2 := t2.size
  have hgm := hb.map.lt
  have hgl := hb.box.lt
  have HS := Lib.hid (Send_any g mb w1.heap.size 0 [] 4 5 n c w.heap.size A l w2 hb (by omega) T2.size s2 (HR.out.tch T2 (Nat.le_refl _) (fun _ _ h => h)) (fun h0 ad hA => by
    obtain ⟨ad', h, hlt, _⟩ := HR.out.2 h0
    rw [hA] at h
    injection h with h
    subst h
    omega) hn)
  go_wp2_with (go_at_call 8; (with_reducible refine HS.out.mono ?_); rintro e w3 ⟨v1, rfl, hb3, hv1, ht3⟩)
  have T3 : Tch None_ w w3 := T2.trans ht3 (fun i hi h => by omega)
  have H3 : Hid (BagAt w3 w1.heap.size g mb ((List.range 1).map (mkD l fun _ => v1)) 1) := hb3
  have HT3 := Lib.hid T3
  clear hb hb3 hv1 ht3 T2 T3 t1 t2 HS
  go_loopg [9, 10] k (fun gh s9 s10 wr => ∃ (i : Nat) (V : Nat → Value), s9 = .int .i64 (i + 1) ∧ s10 = .int .i64 i ∧ k - i = gh ∧ i ≤ k ∧ Hid (BagAt wr w1.heap.size g mb ((List.range (i + 1)).map (mkD l V)) (i + 1)) ∧ Hid (Tch None_ w wr))
  case atStart => exact ⟨0, _, by simp, rfl, rfl, by omega, H3.out, HT3.out⟩
  case round =>
    obtain ⟨i, V, rfl, rfl, rfl, hi, HB, HT⟩ := hrel
    by_cases hlt : i < k
    · have htm := HTI.out.tch HT.out (Nat.le_refl _) (fun _ _ h => h)
      have htl := HTL.out
      obtain ⟨b, o, rfl, _, hx⟩ := htm.field (fun _ => rfl) htl i 0 hlt (by omega)
      obtain ⟨x, hxe⟩ : ∃ x, times[i]'(by omega) = x := ⟨_, rfl⟩
      have hxb := HTB.out x (by rw [← hxe]; exact List.getElem_mem _)
      rw [hxe] at hx
      simp [zOne] at hx
      obtain ⟨j, hj⟩ : ∃ j : Nat, pickI x ((i : Int) + 1) = j := Int.eq_ofNat_of_zero_le (pickI_bd x (i + 1) (by omega)).1
      have hjb : j < i + 1 := by have := (pickI_bd x ((i : Int) + 1) (by omega)).2; omega
      have hp := pick_any x ((i : Int) + 1) wr hxb.1 hxb.2 (by omega) (by omega)
      rw [hj] at hp
      have HP := Lib.hid hp
      have hsz := HT.out.size
      have hd := Double_hit g mb w1.heap.size (i + 1) ((List.range j).map (mkD l V)) (((List.range (i + 1 - j - 1)).map (fun i => j + 1 + i)).map (mkD l V)) (mkD l V j) wr (by rw [← goneD_split l V (i + 1) j hjb]; exact HB.out) (by omega) (by have := HB.out.map.lt; omega)
      rw [← goneD_split l V (i + 1) j hjb] at hd
      have hno : (mkD l V j).no = (j : Int) + 1 := by simp [mkD]
      rw [hno] at hd
      have HD := Lib.hid hd
      clear htm htl hxe hxb hj hp hd hno
      go_wp2_with (first
        | (go_at_call 9; (with_reducible refine HP.out.mono ?_); rintro e w4 ⟨rfl, rfl⟩)
        | (go_at_call 13; (with_reducible refine HD.out.mono ?_); rintro e w5 ⟨v5, rfl, hb5, _, ht5⟩))
      have hsnoc := mkD_snoc l V v5 (i + 1)
      have hb5' : BagAt w5 w1.heap.size g mb ((List.range (i + 1)).map (mkD l V) ++ [⟨((i + 1 + 1 : Nat) : Int), 4, 5, l, v5⟩]) (i + 1 + 1) := hb5
      rw [hsnoc] at hb5'
      go_roundg (k - (i + 1))
      case measure => omega
      case rel => exact ⟨i + 1, _, by go_num, by go_num, rfl, by omega, hb5', HT.out.trans ht5 (fun j hj h => by omega)⟩
    · obtain rfl : i = k := by omega
      obtain ⟨j, hj⟩ : ∃ j : Nat, pickI drop ((i : Int) + 1) = j := Int.eq_ofNat_of_zero_le (pickI_bd drop (i + 1) (by omega)).1
      have hjb : j < i + 1 := by have := (pickI_bd drop ((i : Int) + 1) (by omega)).2; omega
      have hp := pick_any drop ((i : Int) + 1) wr hd1 hd2 (by omega) (by omega)
      rw [hj] at hp
      have HP := Lib.hid hp
      have hd := Drop_hit g mb w1.heap.size (i + 1) ((List.range j).map (mkD l V)) (((List.range (i + 1 - j - 1)).map (fun i => j + 1 + i)).map (mkD l V)) (mkD l V j) wr (by rw [← goneD_split l V (i + 1) j hjb]; exact HB.out) (by omega)
      have hno : (mkD l V j).no = (j : Int) + 1 := by simp [mkD]
      rw [hno] at hd
      have HD := Lib.hid hd
      clear hj hp hd hno hi
      go_wp2_with (first
        | (go_at_call 9; (with_reducible refine HP.out.mono ?_); rintro e w4 ⟨rfl, rfl⟩)
        | (go_at_call 14; (with_reducible refine HD.out.mono ?_); rintro e w5 ⟨rfl, hb5, ht5⟩))
      have hfl : (goneD l V (i + 1) j).length = i := by rw [goneD_len l V (i + 1) j hjb]; omega
      have hF := Flight_any g mb w1.heap.size (i + 1) (goneD l V (i + 1) j) w5 hb5 (by omega) (by rw [hfl]; omega)
      rw [hfl] at hF
      have HF := Lib.hid hF
      have HT5 := Lib.hid (HT.out.trans ht5 (fun j hj h => by omega))
      clear hF hb5 ht5 HD HP
      go_wp2_with (go_at_call 15; (with_reducible refine HF.out.mono ?_); rintro e w6 ⟨v6, fs, rfl, hrow6, htold, hcop, ht6⟩; have HROW := Lib.hid hrow6; have HTOLD := Lib.hid htold; have HCOP := Lib.hid hcop; have HT6 := Lib.hid (HT5.out.then ht6); obtain ⟨A6, c6, rfl, _, _⟩ := own_form hrow6; clear hrow6 htold hcop ht6)
      have hfn : fs.length = i := by
        have := congrArg List.length HTOLD.out
        simp only [List.length_map] at this
        omega
      have HFN := Lib.hid hfn
      have HFL := Lib.hid hfl
      clear hfn hfl
      go_loopg [16] i (fun gh s16 wy => ∃ q : Nat, s16 = .int .i64 q ∧ i - q = gh ∧ q ≤ i ∧ Hid (Tch None_ w6 wy))
      case atStart => exact ⟨0, rfl, rfl, by omega, Tch.refl _ _⟩
      case round =>
        obtain ⟨q, rfl, rfl, hq, HT7⟩ := hrel
        by_cases hlt2 : q < i
        · have hrow7 := HT7.out.row HROW.out (fun _ _ h => h)
          obtain ⟨b, o, rfl, x0, x1, x2, x3⟩ := own_at4 hrow7 HFN.out q hlt2
          have htq : (fs[q]'(by have := HFN.out; omega)).told = (mkD l V (if q < j then q else q + 1)).told := by
            have h1 : (fs.map Par.told)[q]? = ((goneD l V (i + 1) j).map Par.told)[q]? := by rw [HTOLD.out]
            rw [List.getElem?_map, List.getElem?_map, List.getElem?_eq_getElem (by have := HFN.out; omega), List.getElem?_eq_getElem (by have := HFL.out; omega), goneD_get l V (i + 1) j q hjb (by omega)] at h1
            simpa using h1
          have hcq := HCOP.out.rows (fs[q]'(by have := HFN.out; omega)) (List.getElem_mem _)
          generalize fs[q]'(by have := HFN.out; omega) = p at *
          obtain ⟨no, frm, too, bs, pv⟩ := p
          simp only [Par.told, mkD, Prod.mk.injEq] at htq hcq x0 x1 x2 x3
          obtain ⟨rfl, rfl, rfl, rfl⟩ := htq
          obtain ⟨Ap, cp, rfl, _, _⟩ := own_form hcq
          have T8 : Tch None_ wr (wr.alloc (.cells #[.int .i64 (((if q < j then q else q + 1) + 1 : Nat) : Int), .int .i64 4, .int .i64 5, .slice Ap bs.length cp] 31)) := (Tch.refl _ _).alloc _
          have hln : bs.length = n := by have := HR.out.1; simpa using this
          have k1 := conv_any (c := cp) ((Reads.of_own hcq).tch (HT7.out.then T8) (Nat.le_refl _) (fun _ _ h => h))
          have k2 := conv_any (c := c) (HR.out.tch ((HT6.out.then HT7.out).then T8) (Nat.le_refl _) (fun _ _ h => h))
          have HT8 := Lib.hid T8
          have HLN := Lib.hid hln
          clear hrow7 hcq T8 hln
          by_cases hqj : q < j
          · rw [if_pos hqj] at x0 k1 k2 HT8
            push_cast at x0 k1 k2 HT8
            go_wp2_with fail
            go_roundg (i - (q + 1))
            case measure => omega
            case rel => exact ⟨q + 1, by go_num, rfl, by omega, HT7.out.then HT8.out⟩
          · rw [if_neg hqj] at x0 k1 k2 HT8
            push_cast at x0 k1 k2 HT8
            go_wp2_with fail
            go_roundg (i - (q + 1))
            case measure => omega
            case rel => exact ⟨q + 1, by go_num, rfl, by omega, HT7.out.then HT8.out⟩
        · go_wp2_with fail
          go_ret
          exact ⟨rfl, HT6.out.then HT7.out⟩
end Go.Proofs.Ytpjlfmaebkjojaa
