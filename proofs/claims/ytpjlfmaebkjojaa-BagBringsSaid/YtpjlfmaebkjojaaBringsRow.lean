/-
  BagBrings: for every input the call returns true, and each argument reads afterwards as it read before. Conditions: none.
-/
import Derived.Test.YtpjlfmaebkjojaaRows
import Derived.Test.YtpjlfmaebkjojaaBrings
import Derived.Deep.Matrix
import Derived.ChangeSame
import Derived.OpenShut
import Derived.SizedLaws
import Derived.ShutString
import Derived.ChangeOld
namespace Go.Proofs.Ytpjlfmaebkjojaa.bagBrings
open Go.ChangeShapes Go.WideShapes Go.ChangeAt Go.RowKit Go.Deep

theorem own : ownKnob Try.prog.godebug = none := by kernel_rfl
theorem laidOut : laidOutB Try.prog = true := by kernel_rfl
theorem cells3 : Try.prog.cellsOf 3 = 1 := by kernel_rfl
theorem cells5 : Try.prog.cellsOf 5 = 1 := by kernel_rfl
theorem cells28 : Try.prog.cellsOf 28 = 1 := by kernel_rfl
theorem bytes3 : Try.prog.bytesOf 3 = 8 := by kernel_rfl
theorem bytes5 : Try.prog.bytesOf 5 = 1 := by kernel_rfl
theorem bytes28 : Try.prog.bytesOf 28 = 24 := by kernel_rfl

theorem weights_all {H : Type} {P : Program} {e : TypeId} {l : List (DataW H)} {d : DataW H} {n : Nat} (hd : d ∈ l) (hn : n ∈ d.weights P e) : n ∈ DataW.weightsAll P e l := by
  induction l with
  | nil => cases hd
  | cons a r ih =>
    simp only [DataW.weightsAll, List.mem_append]
    rcases List.mem_cons.1 hd with h | h
    · subst h; exact .inl hn
    · exact .inr (ih h)

theorem reads_one {w : World} {a : Addr} {n : Nat} {xs : List Value} (hx : xs.length = n) (h : ∀ i, i < n → w.cell? (a.add i) = xs[i]?) : Reads w w.heap.size 1 (some a) n xs := by
  refine ⟨by rw [hx, Nat.mul_one], fun h0 => ⟨a, rfl, ?_, fun j u hu => ?_⟩⟩
  · have h1 := h 0 h0
    rw [List.getElem?_eq_getElem (by omega)] at h1
    have := World.block_lt_of_cell? w _ h1
    rwa [block_of_add] at this
  · have hj := (List.getElem?_eq_some_iff.1 hu).1
    rw [h j (by omega), hu]

set_option maxRecDepth 100000 in
theorem lifted (os : Os) (started : os.Started) (H : Type) (enc : TypeId × Value → H) :
    ReturnsInHanded {} Try.checked os 3 .any (Rows.bagBringsSpec.pre6 enc Try.prog Try.f3 Rows.bagBringsRow.domain false) (Rows.bagBringsSpec.post enc Try.prog Try.f3 false true false false) := by
  refine returnsInHanded_of_change_sized (C := Try.checked) own started (by kernel_rfl) Try.func3
    (ChangeSpec.witness6 (enc := enc) (C := Try.checked) false ⟨#[], #[.slice none 0 0, .slice none 0 0], []⟩ 8 (by kernel_rfl) (by kernel_rfl) (by kernel_rfl) (by kernel_rfl)) ?_
  intro W base args ds gs before hval0 hW hcnd hsz _
  have hval : ∀ (j : Nat) t v, Try.f3.params[j]? = some t → args[j]? = some v → Value.okWide Try.prog W .any base t v := hval0
  have hW' := hW
  obtain ⟨p, q, hA0, hV, rfl, hfz, hnd⟩ := hW
  have hA : DataW.TrodAll enc Try.prog W 0 (fun _ => true) true Try.f3.params.toList args.toList ds p := hA0
  rw [Try.params3] at hA hval
  obtain ⟨v0, vs0, d0, ds0, p0, q0, hargs, rfl, rfl, h0, r0⟩ := trodAll_cons hA
  obtain ⟨v1, vs1, d1, ds1, p1, q1, rfl, rfl, rfl, h1, r1⟩ := trodAll_cons r0
  obtain ⟨rfl, rfl, rfl⟩ := trodAll_nil r1
  obtain rfl : args = #[v0, v1] := by cases args; simp_all
  obtain ⟨rfl, rfl⟩ := trodVars_none hV
  obtain ⟨D, m, mc, rfl⟩ := okWide_slice Try.underlying22 (hval 0 22 v0 rfl rfl)
  obtain ⟨O, k, kc, rfl⟩ := okWide_slice Try.underlying23 (hval 1 23 v1 rfl rfl)
  have k0 := h0
  have k1 := h1
  have lt0 : ∀ x ∈ p0, x.block < W.heap.size := by obtain ⟨m, hm⟩ := k0; exact DataW.trod_lt m _ _ _ hm
  have lt1 : ∀ x ∈ p1, x.block < W.heap.size := by obtain ⟨m, hm⟩ := k1; exact DataW.trod_lt m _ _ _ hm
  obtain ⟨rows, hD, hrows, hm, hms⟩ : ∃ rows : List RowD, Reads W W.heap.size 1 D m (rows.flatMap RowD.vals) ∧ RowsAt W W.heap.size rows ∧ rows.length = m ∧ m ≤ 5864062014634 := by
    obtain ⟨fuel, hf⟩ := h0
    rcases open_int_rows Try.underlying22 Try.underlying28 Try.underlying5 cells28 cells5 hf with ⟨hv, _⟩ | ⟨a, len, cap, A, L, C, Z, hv, _, hlc, _, hx, hr⟩
    · simp only [Value.cells, List.cons.injEq, and_true] at hv
      injection hv with e1 e2 e3
      subst e1 e2 e3
      exact ⟨[], Reads.none_, fun r hr => by (cases hr), rfl, by omega⟩
    · simp only [Value.cells, List.cons.injEq, and_true] at hv
      injection hv with e1 e2 e3
      subst e1 e2 e3
      simp only [Prod.mk.injEq] at hx
      obtain ⟨rfl, -⟩ := hx
      refine ⟨(List.range m).map fun i => ⟨A i, L i, C i, (Z i).take (L i)⟩, ?_, ?_, by simp, ?_⟩
      · refine reads_one (by rw [flat_len _ 1 RowD.one]; simp) fun i hi => ?_
        have := flat_get RowD.vals 1 RowD.one ((List.range m).map fun i => (⟨A i, L i, C i, (Z i).take (L i)⟩ : RowD)) i 0 (by omega) (by simpa using hi)
        rw [Nat.mul_one, Nat.add_zero] at this
        rw [this, (hr i (by omega)).1]
        simp [RowD.vals]
      · intro r hrm
        obtain ⟨i, hi, rfl⟩ := List.mem_map.1 hrm
        have hi : i < m := by simpa using hi
        obtain ⟨g1, g2, g3, g4, g5, g6, g7⟩ := hr i (by omega)
        have gl : ((Z i).take (L i)).length = L i := by rw [List.length_take, g4]; omega
        simp only
        cases hAi : A i with
        | none =>
          have := g6 hAi
          have hL0 : L i = 0 := by omega
          rw [hL0]
          exact ⟨by simpa [u8s] using Reads.none_, by omega⟩
        | some a' =>
          refine ⟨reads_one (by simpa using gl) fun j hj => ?_, ?_⟩
          · have := (g7 a' hAi).2 j (by omega)
            rw [this]
            simp [u8s, hj, List.getElem?_eq_getElem (show j < (Z i).length by omega), List.getD]
          · have hw : C i * 1 ∈ (intRow (H := H) .u8 (A i) (L i) (Z i)).weights Try.prog 28 := by
              rw [hAi]
              simp only [intRow, DataW.weights, Try.underlying28, bytes5, lits]
              refine List.mem_cons.2 (.inl ?_)
              simp only [List.length_map, List.length_take, List.length_drop, g4]
              omega
            have hw2 := weights_all (P := Try.prog) (e := 28) (l := (List.range m).map fun r => intRow (H := H) .u8 (A r) (L r) (Z r)) (List.mem_map.2 ⟨i, by simpa using hi, rfl⟩) hw
            have := List.all_eq_true.1 hsz _ (DataW.weights_mem_each (j := 0) (t := 22) rfl rfl (C i * 1) (by
              simp only [DataW.weights]
              exact List.mem_cons_of_mem _ (List.mem_append_left _ hw2)))
            have : C i * 1 ≤ 140737488351232 := of_decide_eq_true this
            omega
      · have := sized_slice hsz (j := 0) (t := 22) (e := 28) rfl rfl Try.underlying22
        change _ * Try.prog.bytesOf 28 ≤ 140737488351232 at this
        rw [bytes28] at this
        simp only [List.length_map, List.length_range] at this
        omega
  obtain ⟨order, hO, hk, hks, hob⟩ : ∃ order : List Int, Reads W W.heap.size 1 O k (order.flatMap zOne) ∧ order.length = k ∧ k ≤ 17592186043904 ∧ (∀ x ∈ order, -9223372036854775808 ≤ x ∧ x ≤ 9223372036854775807) := by
    obtain ⟨fuel, hf⟩ := h1
    rcases Go.ChangeShapes.open_ints Try.underlying23 Try.underlying3 cells3 hf with ⟨hv, _⟩ | ⟨a, len, cap, zs, hv, _, hlc, _, hz, hx, hc, hwf⟩
    · simp only [Value.cells, List.cons.injEq, and_true] at hv
      injection hv with e1 e2 e3
      subst e1 e2 e3
      exact ⟨[], Reads.none_, rfl, by omega, by simp⟩
    · simp only [Value.cells, List.cons.injEq, and_true] at hv
      injection hv with e1 e2 e3
      subst e1 e2 e3
      simp only [Prod.mk.injEq] at hx
      obtain ⟨rfl, -⟩ := hx
      simp only [if_true] at hz
      have hl : (zs.take k).length = k := by rw [List.length_take]; omega
      refine ⟨zs.take k, ?_, hl, ?_, fun x hx => ?_⟩
      · refine reads_one (by rw [flat_len _ 1 (fun _ => rfl)]; simpa using hl) fun i hi => ?_
        have := flat_get zOne 1 (fun _ => rfl) (zs.take k) i 0 (by omega) (by omega)
        rw [Nat.mul_one, Nat.add_zero] at this
        rw [this, hc i (by omega)]
        simp [zOne, List.getD, List.getElem?_eq_getElem (show i < zs.length by omega)]
      · have := sized_slice hsz (j := 1) (t := 23) (e := 3) rfl rfl Try.underlying23
        change _ * Try.prog.bytesOf 3 ≤ 140737488351232 at this
        rw [bytes3] at this
        simp only [lits, List.length_map, List.length_take, List.length_drop] at this
        omega
      · have := hwf x (List.mem_of_mem_take hx)
        simpa [Lit.wf, IntKind.min, IntKind.max, IntKind.signed, IntKind.bits] using this
  clear hA0 hval0
  refine (Brings_any m mc k kc W.heap.size D O rows order W (Nat.le_refl _) hD hrows hm hms hO hk hks hob).mono fun e W' ⟨he, ht⟩ => ?_
  subst he
  have bel := ht.below
  exact ⟨_, rfl, _, _, _, [], _, [], hW', trodAll_mk1 (shut_bool Try.underlying4 _), (trodAll_cons_mk (Below.trod laidOut (by kernel_rfl) (of_decide_eq_true (by kernel_rfl)) k0 bel lt0) (trodAll_cons_mk (Below.trod laidOut (by kernel_rfl) (of_decide_eq_true (by kernel_rfl)) k1 bel lt1) trodAll_mk0)), rfl, bel.frame _, fun h => by cases h⟩

theorem over : Rows.bagBringsRow.holds Try.pinned (OpenSpec.ofChange Rows.bagBringsSpec) :=
  OpenClaim.holds_of_wide 3 Try.f3 rfl rfl rfl rfl rfl rfl rfl ⟨rfl, rfl, rfl, rfl, rfl⟩ rfl rfl rfl rfl rfl (by kernel_rfl) Try.func3 (by kernel_rfl)
    (of_decide_eq_true (by kernel_rfl)) (by unfold Func.isWrapper; first | (rw [if_pos (by decide +kernel)]; kernel_rfl) | (rw [if_neg (by decide +kernel)]; exact ⟨rfl, rfl⟩))
    (fun os started H enc _ => lifted os started H enc)

theorem proved : Rows.BagBringsSaid := over
#print axioms proved
end Go.Proofs.Ytpjlfmaebkjojaa.bagBrings
