/-
  No statement is proved here: what bag's Drop and Double, the reference's Same, pick and awake come to (walks of the code).
-/
import Derived.Test.YtpjlfmaebkjojaaBag
import Derived.Laws.BytesArg
namespace Go.Proofs.Ytpjlfmaebkjojaa
open Go.RowKit Go.Maps

theorem conv_any {w : World} {B n c : Nat} {A : Option Addr} {l : List Int} (hr : Reads w B 1 A n (u8s l)) : (convert 28 9 (.slice A n c)).run Try.prog w = .ok (.string (strOfNums l)) w := by
  have hl : l.length = n := by simpa using hr.1
  rcases Nat.eq_zero_or_pos n with h0 | h0
  · subst h0
    have hl0 : l = [] := List.eq_nil_of_length_eq_zero hl
    subst hl0
    cases A with
    | none => exact run_convert_bytes_nil w 28 5 Try.underlying28 Try.underlying5 0 c 9 Try.underlying9
    | some ad =>
      rw [run_convert_bytes_string w 28 9 5 _ 0 c Try.underlying28 Try.underlying5 Try.underlying9, run_bytesToString w ad 0 c [] (by simp [loadCells, loadCellsFrom])]
      rfl
  · obtain ⟨ad, rfl, _, hc⟩ := hr.2 h0
    rw [run_convert_bytes_string w 28 9 5 _ n c Try.underlying28 Try.underlying5 Try.underlying9]
    rw [run_bytesToString w ad n c l (by
      have := run_loadCells_list (P := Try.prog) w ad (u8s l) (fun j v hj => hc j v hj)
      simpa [hl, u8s] using this), foldl_push_bytes]
    simp [strOfNums, ByteArray.empty, ByteArray.emptyWithCapacity]
    rfl

set_option maxHeartbeats 1000000 in
/-- Two parcels that are the same. -/
theorem Same_yes (no frm to : Int) (n c1 c2 B : Nat) (A1 A2 : Option Addr) (l : List Int) (w : World) (hB : B ≤ w.heap.size) (hr1 : Reads w B 1 A1 n (u8s l)) (hr2 : Reads w B 1 A2 n (u8s l)) :
    Calls Try.prog 16 #[.agg #[.int .i64 no, .int .i64 frm, .int .i64 to, .slice A1 n c1], .agg #[.int .i64 no, .int .i64 frm, .int .i64 to, .slice A2 n c2]] w fun e w' => e = .returned (.bool true) ∧ Tch None_ w w' := by
  have T : Tch None_ w ((w.alloc (.cells #[.int .i64 no, .int .i64 frm, .int .i64 to, .slice A1 n c1] 31)).alloc (.cells #[.int .i64 no, .int .i64 frm, .int .i64 to, .slice A2 n c2] 31)) := ((Tch.refl _ _).alloc _).alloc _
  have k1 := conv_any (c := c1) (hr1.tch T hB (fun _ _ h => h))
  have k2 := conv_any (c := c2) (hr2.tch T hB (fun _ _ h => h))
  go_enter Try.func16, Try.ntmps16
  go_wp2_with fail
  go_ret
  exact ⟨by simp, T⟩

def pickI (c n : Int) : Int := (if c < 0 then -(c + 1) else c) % n
theorem pickI_bd (c n : Int) (h : 0 < n) : 0 ≤ pickI c n ∧ pickI c n < n := by unfold pickI; exact ⟨Int.emod_nonneg _ (by omega), Int.emod_lt_of_pos _ h⟩
set_option maxHeartbeats 400000 in
theorem pick_any (c n : Int) (w : World) (h1 : -9223372036854775808 ≤ c) (h2 : c ≤ 9223372036854775807) (h3 : 0 < n) (h4 : n ≤ 9223372036854775807) :
    Calls Try.prog 9 #[.int .i64 c, .int .i64 n] w fun e w' => e = .returned (.int .i64 (pickI c n)) ∧ w = w' := by
  by_cases hc : c < 0
  · have H : Hid (pickI c n = (-(c + 1)) % n) := by unfold pickI; rw [if_pos hc]; exact rfl
    go_enter Try.func9, Try.ntmps9
    go_wp2_with fail
    go_ret
    exact ⟨ret_int (by rw [H.out, ← Int.neg_tmod, Int.tmod_eq_emod_of_nonneg (by omega)]), rfl⟩
  · have H : Hid (pickI c n = c % n) := by unfold pickI; rw [if_neg hc]; exact rfl
    go_enter Try.func9, Try.ntmps9
    go_wp2_with fail
    go_ret
    exact ⟨ret_int (by rw [H.out]), rfl⟩

theorem Drop_hit (g mb base last : Nat) (L1 L2 : List Par) (p : Par) (w : World) (hg : BagAt w base g mb (L1 ++ p :: L2) last) (hl : last < 4611686018427387904) :
    Calls Try.prog 14 #[.pointer (some ⟨g, 0, none⟩), .int .i64 p.no] w fun e w' => e = .returned (.int .i64 0) ∧ BagAt w' base g mb (L1 ++ L2) last ∧ Tch (fun k => k = mb) w w' := by
  have hrow := hg.rows p (by simp)
  obtain ⟨A, c, hv, _, _⟩ := own_form hrow
  have HD := Lib.hid (Deliver_hit g mb base last L1 L2 p w hg hl)
  simp only [Par.val, hv] at HD
  clear hv hrow
  go_enter Try.func14, Try.ntmps14
  go_wp2_with fail
  refine HD.out.mono ?_
  rintro e w1 ⟨rfl, hb, ht⟩
  go_wp2_with fail
  go_ret
  exact ⟨rfl, hb.keep ((Tch.refl _ _).alloc _), ht.alloc _⟩

theorem Drop_miss (g mb base last : Nat) (ps : List Par) (no : Int) (w : World) (hg : BagAt w base g mb ps last) (h1 : -9223372036854775808 ≤ no) (h2 : no ≤ 9223372036854775807) (hno : ∀ p ∈ ps, p.no ≠ no) :
    Calls Try.prog 14 #[.pointer (some ⟨g, 0, none⟩), .int .i64 no] w fun e w' => e = .returned (.int .i64 170) ∧ Tch None_ w w' := by
  have HD := Lib.hid (Deliver_miss g mb base last ps no w hg h1 h2 hno)
  clear hno
  go_enter Try.func14, Try.ntmps14
  go_wp2_with fail
  refine HD.out.mono ?_
  rintro e w1 ⟨rfl, ht⟩
  go_wp2_with fail
  go_ret
  exact ⟨rfl, ht.alloc _⟩

set_option maxHeartbeats 1000000 in
theorem Double_hit (g mb base last : Nat) (L1 L2 : List Par) (p : Par) (w : World) (hg : BagAt w base g mb (L1 ++ p :: L2) last) (hl : last < 4611686018427387904) (hbase : base ≤ w.heap.size) :
    Calls Try.prog 13 #[.pointer (some ⟨g, 0, none⟩), .int .i64 p.no] w fun e w' => ∃ v, e = .returned (.tuple #[.int .i64 (last + 1 : Nat), .int .i64 0]) ∧
      BagAt w' base g mb (L1 ++ p :: L2 ++ [⟨(last + 1 : Nat), p.frm, p.to, p.bs, v⟩]) (last + 1) ∧ (∀ k, v.ownBlock = some k → w.heap.size ≤ k) ∧ Tch (fun k => k = g ∨ k = mb) w w' := by
  have hrow := hg.rows p (by simp)
  have hbd := hg.bd p (by simp)
  have hsz := hg.sz p (by simp)
  have hne : ∀ k, p.v.ownBlock = some k → k ≠ g ∧ k ≠ mb := fun k hk => hg.blk_ne k (List.mem_filterMap.2 ⟨p, by simp, hk⟩)
  have c0 := hg.box.cell 0
  have lg := hg.box.lt
  simp at c0
  obtain ⟨no, frm, to, bs, v⟩ := p
  obtain ⟨A, c, hv, _, _⟩ := own_form hrow
  simp only at hv hbd hsz hne
  subst hv
  have hlook := (hg.map.look true lawK Try.underlying55 (zero31 _) (keyI no (by omega) (by omega))).2 (Par.val ⟨no, frm, to, bs, .slice A bs.length c⟩) (by simp [Par.ent])
  simp only [if_true, Par.val] at hlook
  have hA : ∀ ad, A = some ad → ad.block ≠ g ∧ ad.block ≠ mb := fun ad h => hne ad.block (by rw [h]; rfl)
  have HP := Lib.hid (fun W (hW : Tch None_ w W) => put_any g mb base last _ no frm to bs.length c W.heap.size A bs W (hg.keep hW) hl (Nat.le_refl _) (Nat.le_trans hbase hW.size) (Reads.of_own (hW.row hrow (fun _ _ h => h))) (fun _ => hA) hsz)
  clear hrow hA hne
  go_enter Try.func13, Try.ntmps13
  go_wp2_with (at_lookup; refine wpList_lookup_run _ rfl _ _ 55 true rfl _ _ _ rfl rfl hlook ?_)
  refine (HP.out _ ((Tch.refl _ _).alloc _)).mono ?_
  rintro e w1 ⟨v, rfl, hb, hvk, ht⟩
  go_wp2_with fail
  go_ret2
  exact ⟨v, rfl, hb, fun k hk => by have := hvk k hk; simp at this; omega, ((Tch.refl _ _).alloc _).then ht⟩

theorem Double_miss (g mb base last : Nat) (ps : List Par) (no : Int) (w : World) (hg : BagAt w base g mb ps last) (h1 : -9223372036854775808 ≤ no) (h2 : no ≤ 9223372036854775807) (hno : ∀ p ∈ ps, p.no ≠ no) :
    Calls Try.prog 13 #[.pointer (some ⟨g, 0, none⟩), .int .i64 no] w fun e w' => e = .returned (.tuple #[.int .i64 0, .int .i64 170]) ∧ Tch None_ w w' := by
  have c0 := hg.box.cell 0
  have lg := hg.box.lt
  simp at c0
  have hlook := (hg.map.look true lawK Try.underlying55 (zero31 _) (keyI no h1 h2)).1 (by
    intro p hp e
    obtain ⟨q, hq, rfl⟩ := List.mem_map.1 hp
    simp only [Par.ent] at e
    injection e with _ e
    exact hno q hq e)
  simp only [if_true] at hlook
  clear hno
  go_enter Try.func13, Try.ntmps13
  go_wp2_with (at_lookup; refine wpList_lookup_run _ rfl _ _ 55 true rfl _ _ _ rfl rfl hlook ?_)
  go_ret2
  exact ⟨rfl, (Tch.refl _ _).alloc _⟩
end Go.Proofs.Ytpjlfmaebkjojaa
