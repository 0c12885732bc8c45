/-
  BagDoubles: for every input of bulk at most 1048576 the call returns true, and each argument reads afterwards as it read before. Conditions: the bulk of what is read is at most 1048576 (the form UptoSaid).
-/
import Derived.Test.YtpjlfmaebkjojaaBulk
import Derived.Test.YtpjlfmaebkjojaaDoubles
import Derived.ChangeSame
import Derived.OpenShut
import Derived.ShutString
import Derived.ChangeOld
import Derived.JoinedCond
namespace Go.Proofs.Ytpjlfmaebkjojaa.bagDoubles
open Go.ChangeShapes Go.WideShapes Go.ChangeAt Go.RowKit

theorem own : ownKnob Try.prog.godebug = none := by kernel_rfl
theorem laidOut : laidOutB Try.prog = true := by kernel_rfl
theorem cells3 : Try.prog.cellsOf 3 = 1 := by kernel_rfl
theorem cells5 : Try.prog.cellsOf 5 = 1 := by kernel_rfl

theorem reads_one {w : World} {a : Addr} {n : Nat} {xs : List Value} (hx : xs.length = n) (h : ∀ i, i < n → w.cell? (a.add i) = xs[i]?) : Reads w w.heap.size 1 (some a) n xs := by
  refine ⟨by rw [hx, Nat.mul_one], fun h0 => ⟨a, rfl, ?_, fun j u hu => ?_⟩⟩
  · have h1 := h 0 h0
    rw [List.getElem?_eq_getElem (by omega)] at h1
    have := World.block_lt_of_cell? w _ h1
    rwa [block_of_add] at this
  · have hj := (List.getElem?_eq_some_iff.1 hu).1
    rw [h j (by omega), hu]

set_option maxRecDepth 100000 in
theorem contract (H : Type) (enc : TypeId × Value → H) (W : World) (base : Nat) (args : Array Value) (ds gs : List (DataW H)) (before : List MemPlace)
    (hval0 : ∀ (j : Nat) t v, Try.f5.params[j]? = some t → args[j]? = some v → Value.okWide Try.prog W .any base t v)
    (hW : DataW.Whole enc Try.prog Try.f5.params.toList Rows.bagDoublesSpec.vars false W args.toList ds gs before) (hk : Rows.uptoSmall H (ds ++ gs) = true) :
    Calls Try.prog 5 args W fun e W' => ∃ v, e = .returned v ∧ Rows.bagDoublesSpec.post enc Try.prog Try.f5 false true false false W args v W' := by
  have hval : ∀ (j : Nat) t v, Try.f5.params[j]? = some t → args[j]? = some v → Value.okWide Try.prog W .any base t v := hval0
  have hW' := hW
  obtain ⟨p, q, hA0, hV, rfl, hfz, hnd⟩ := hW
  have hA : DataW.TrodAll enc Try.prog W 0 (fun _ => true) true Try.f5.params.toList args.toList ds p := hA0
  rw [Try.params5] at hA hval
  obtain ⟨v0, vs0, d0, ds0, p0, q0, hargs, rfl, rfl, h0, r0⟩ := trodAll_cons hA
  obtain ⟨v1, vs1, d1, ds1, p1, q1, rfl, rfl, rfl, h1, r1⟩ := trodAll_cons r0
  obtain ⟨v2, vs2, d2, ds2, p2, q2, rfl, rfl, rfl, h2, r2⟩ := trodAll_cons r1
  obtain ⟨rfl, rfl, rfl⟩ := trodAll_nil r2
  obtain rfl : args = #[v0, v1, v2] := by cases args; simp_all
  obtain ⟨rfl, rfl⟩ := trodVars_none hV
  obtain ⟨A, n, c, rfl⟩ := okWide_slice Try.underlying28 (hval 0 28 v0 rfl rfl)
  obtain ⟨O, k, kc, rfl⟩ := okWide_slice Try.underlying23 (hval 1 23 v1 rfl rfl)
  obtain ⟨dr, rfl, rfl, rfl, wd⟩ := open_int Try.underlying3 (hval 2 3 v2 rfl rfl) h2
  have hdb : -9223372036854775808 ≤ dr ∧ dr ≤ 9223372036854775807 := by simpa [Lit.wf, IntKind.min, IntKind.max, IntKind.signed, IntKind.bits] using wd
  have k0 := h0
  have k1 := h1
  have lt0 : ∀ x ∈ p0, x.block < W.heap.size := by obtain ⟨m, hm⟩ := k0; exact DataW.trod_lt m _ _ _ hm
  have lt1 : ∀ x ∈ p1, x.block < W.heap.size := by obtain ⟨m, hm⟩ := k1; exact DataW.trod_lt m _ _ _ hm
  have hbulk := bulks.bound hk
  obtain ⟨l, hD, hn⟩ : ∃ l : List Int, Reads W W.heap.size 1 A n (u8s l) ∧ n ≤ 1048576 := by
    obtain ⟨fuel, hf⟩ := h0
    rcases Go.ChangeShapes.open_ints Try.underlying28 Try.underlying5 cells5 hf with ⟨hv, _⟩ | ⟨a, len, cap, zs, hv, _, hlc, _, hz, hx, hc, hwf⟩
    · simp only [Value.cells, List.cons.injEq, and_true] at hv
      injection hv with e1 e2 e3
      subst e1 e2 e3
      exact ⟨[], by simpa [u8s] using (Reads.none_ : Reads W W.heap.size 1 none 0 []), by omega⟩
    · simp only [Value.cells, List.cons.injEq, and_true] at hv
      injection hv with e1 e2 e3
      subst e1 e2 e3
      simp only [Prod.mk.injEq] at hx
      obtain ⟨rfl, -⟩ := hx
      simp only [if_true] at hz
      have hl : (zs.take n).length = n := by rw [List.length_take]; omega
      refine ⟨zs.take n, reads_one (by simpa using hl) fun i hi => ?_, ?_⟩
      · rw [hc i (by omega)]
        simp [u8s, hi, List.getElem?_eq_getElem (show i < zs.length by omega), List.getD]
      · have h3 := bulks.part_le (d := DataW.slice (H := H) (lits .u8 (zs.take n)) (lits .u8 (zs.drop n))) (l := [DataW.slice (lits .u8 (zs.take n)) (lits .u8 (zs.drop n)), d1, .lit (.int .i64 dr)] ++ []) (by simp)
        have h4 := bulks.slice_le (H := H) (lits .u8 (zs.take n)) (lits .u8 (zs.drop n))
        have h5 : (lits (H := H) .u8 (zs.take n)).length = n := by simp [lits]; omega
        omega
  obtain ⟨times, hO, htl, hkk, htb⟩ : ∃ times : List Int, Reads W W.heap.size 1 O k (times.flatMap zOne) ∧ times.length = k ∧ k ≤ 1048576 ∧ (∀ x ∈ times, -9223372036854775808 ≤ x ∧ x ≤ 9223372036854775807) := by
    obtain ⟨fuel, hf⟩ := h1
    rcases Go.ChangeShapes.open_ints Try.underlying23 Try.underlying3 cells3 hf with ⟨hv, _⟩ | ⟨a, len, cap, zs, hv, _, hlc, _, hz, hx, hc, hwf⟩
    · simp only [Value.cells, List.cons.injEq, and_true] at hv
      injection hv with e1 e2 e3
      subst e1 e2 e3
      exact ⟨[], Reads.none_, rfl, by omega, by simp⟩
    · simp only [Value.cells, List.cons.injEq, and_true] at hv
      injection hv with e1 e2 e3
      subst e1 e2 e3
      simp only [Prod.mk.injEq] at hx
      obtain ⟨rfl, -⟩ := hx
      simp only [if_true] at hz
      have hl : (zs.take k).length = k := by rw [List.length_take]; omega
      refine ⟨zs.take k, ?_, hl, ?_, fun x hx => ?_⟩
      · refine reads_one (by rw [flat_len _ 1 (fun _ => rfl)]; simpa using hl) fun i hi => ?_
        have := flat_get zOne 1 (fun _ => rfl) (zs.take k) i 0 (by omega) (by omega)
        rw [Nat.mul_one, Nat.add_zero] at this
        rw [this, hc i (by omega)]
        simp [zOne, List.getD, List.getElem?_eq_getElem (show i < zs.length by omega)]
      · have h3 := bulks.part_le (d := DataW.slice (H := H) (lits .i64 (zs.take k)) (lits .i64 (zs.drop k))) (l := [d0, DataW.slice (lits .i64 (zs.take k)) (lits .i64 (zs.drop k)), .lit (.int .i64 dr)] ++ []) (by simp)
        have h4 := bulks.slice_le (H := H) (lits .i64 (zs.take k)) (lits .i64 (zs.drop k))
        have h5 : (lits (H := H) .i64 (zs.take k)).length = k := by simp [lits]; omega
        omega
      · have := hwf x (List.mem_of_mem_take hx)
        simpa [Lit.wf, IntKind.min, IntKind.max, IntKind.signed, IntKind.bits] using this
  clear hA0 hval0
  refine (Doubles_any n c k kc A O l times dr W hD (by omega) hO htl hkk htb hdb.1 hdb.2).mono fun e W' ⟨he, ht⟩ => ?_
  subst he
  have bel := ht.below
  exact ⟨_, rfl, _, _, _, [], _, [], hW', trodAll_mk1 (shut_bool Try.underlying4 _), (trodAll_cons_mk (Below.trod laidOut (by kernel_rfl) (of_decide_eq_true (by kernel_rfl)) k0 bel lt0) (trodAll_cons_mk (Below.trod laidOut (by kernel_rfl) (of_decide_eq_true (by kernel_rfl)) k1 bel lt1) (trodAll_cons_mk (shut_int Try.underlying3 wd) trodAll_mk0))), rfl, bel.frame _, fun h => by cases h⟩

set_option maxRecDepth 100000 in
theorem lifted (os : Os) (started : os.Started) (H : Type) (enc : TypeId × Value → H) (F : Stop.Interp) :
    ReturnsInHanded {} Try.checked os 5 .any ((Rows.OpenSpec.upto Rows.bagDoublesSpec).pre6 enc Try.prog Try.f5 Rows.bagDoublesUptoRow.domain false) (((Rows.OpenSpec.upto Rows.bagDoublesSpec).at F).post enc Try.prog Try.f5 false true false false) := by
  refine returnsInHanded_of_cond (C := Try.checked) (s := Rows.OpenSpec.upto Rows.bagDoublesSpec) (k := Rows.uptoSmall) rfl own started (by kernel_rfl) Try.func5
    (OpenSpec.witness (enc := enc) (C := Try.checked) (s := Rows.OpenSpec.upto Rows.bagDoublesSpec) (k := Rows.uptoSmall) rfl false ⟨#[], #[.slice none 0 0, .slice none 0 0, .int .i64 0], []⟩ 8 (by kernel_rfl) (by kernel_rfl) (by kernel_rfl)
      (x := ([.nil, .nil, .lit (.int .i64 0)], [], [])) (by kernel_rfl) rfl (by kernel_rfl)) ?_
  intro W base args ds gs before hval hW _ hk _
  exact contract H enc W base args ds gs before hval hW hk

theorem over : Rows.bagDoublesUptoRow.holds Try.pinned (Rows.OpenSpec.upto Rows.bagDoublesSpec) :=
  OpenClaim.holds_of_cond 5 Try.f5 rfl rfl rfl rfl rfl rfl rfl ⟨rfl, rfl, rfl, rfl, rfl⟩ rfl rfl rfl rfl rfl (by kernel_rfl) Try.func5 (by kernel_rfl)
    (of_decide_eq_true (by kernel_rfl)) (by unfold Func.isWrapper; first | (rw [if_pos (by decide +kernel)]; kernel_rfl) | (rw [if_neg (by decide +kernel)]; exact ⟨rfl, rfl⟩))
    (fun os started H enc _ F => lifted os started H enc F)

theorem proved : Rows.BagDoublesUptoSaid := over
#print axioms proved
end Go.Proofs.Ytpjlfmaebkjojaa.bagDoubles
