/-
  GateDoes: for every input the call returns true, and each argument reads afterwards as it read before. Conditions: none.
-/
import Derived.Test.YtcineclpmacfhaaRows
import Derived.Test.YtcineclpmacfhaaDoesc
import Derived.Test.YtcineclpmacfhaaArgs
import Derived.ShutString
import Derived.ChangeOld
namespace Go.Proofs.Ytcineclpmacfhaa.gateDoes
open Go.ChangeShapes Go.WideShapes Go.ChangeAt Go.RowKit

theorem own : ownKnob Try.prog.godebug = none := by kernel_rfl
theorem laidOut : laidOutB Try.prog = true := by kernel_rfl
theorem cells36 : Try.prog.cellsOf 36 = 6 := by kernel_rfl
theorem bytes36 : Try.prog.bytesOf 36 = 48 := by kernel_rfl

theorem intFields : ∀ (j : Nat) (f : Field), (match Try.prog.underlying 36 with | some (.struct fs) => fs | _ => #[])[j]? = some f → Try.prog.underlying f.type = some (.int .i64) := by
  rw [Try.underlying36]
  intro j f h
  match j, h with
  | 0, h | 1, h | 2, h | 3, h | 4, h | 5, h => simp at h; subst h; first | exact Try.underlying3 | exact Try.underlying2
  | j + 6, h => simp at h

set_option maxRecDepth 100000 in
theorem lifted (os : Os) (started : os.Started) (H : Type) (enc : TypeId × Value → H) :
    ReturnsInHanded {} Try.checked os 5 .any (Rows.gateDoesSpec.pre6 enc Try.prog Try.f5 Rows.gateDoesRow.domain false) (Rows.gateDoesSpec.post enc Try.prog Try.f5 false true false false) := by
  refine returnsInHanded_of_change_sized (C := Try.checked) own started (by kernel_rfl) Try.func5
    (ChangeSpec.witness6 (enc := enc) (C := Try.checked) false ⟨#[], #[.slice none 0 0], []⟩ 8 (by kernel_rfl) (by kernel_rfl) (by kernel_rfl) (by kernel_rfl)) ?_
  intro W base args ds gs before hval0 hW hcnd hsz _
  have hval : ∀ (j : Nat) t v, Try.f5.params[j]? = some t → args[j]? = some v → Value.okWide Try.prog W .any base t v := hval0
  have hW' := hW
  obtain ⟨p, q, hA0, hV, rfl, hfz, hnd⟩ := hW
  have hA : DataW.TrodAll enc Try.prog W 0 (fun _ => true) true Try.f5.params.toList args.toList ds p := hA0
  rw [Try.params5] at hA hval
  obtain ⟨v2, vs2, d2, ds2, p2, q2, hargs, rfl, rfl, h2, r2⟩ := trodAll_cons hA
  obtain ⟨rfl, rfl, rfl⟩ := trodAll_nil r2
  obtain rfl : args = #[v2] := by cases args; simp_all
  obtain ⟨rfl, rfl⟩ := trodVars_none hV
  obtain ⟨A, n, c, rfl⟩ := okWide_slice Try.underlying22 (hval 0 22 v2 rfl rfl)
  have k2 := h2
  have lt2 : ∀ x ∈ p2, x.block < W.heap.size := by obtain ⟨m, hm⟩ := k2; exact DataW.trod_lt m _ _ _ hm
  obtain ⟨ops, hr, hn, hb, hbd⟩ : ∃ ops : List OpD, Reads W W.heap.size 6 A n (ops.flatMap OpD.vals) ∧ ops.length = n ∧ n * 48 ≤ 140737488351232 ∧ (∀ o ∈ ops, -9223372036854775808 ≤ o.kind ∧ o.kind ≤ 9223372036854775807 ∧ -9223372036854775808 ≤ o.which ∧ o.which ≤ 9223372036854775807) := by
    obtain ⟨fuel, hf⟩ := h2
    rcases open_int_structs 6 Try.underlying22 Try.underlying36 (by kernel_rfl) cells36 rfl (by have := intFields; rwa [Try.underlying36] at this) hf ⟨_, _, _, rfl⟩ with ⟨hv, _⟩ | ⟨a, len, cap, elems, sp, X, hv, _, hm, hx, hel, hX⟩
    · injection hv with e1 e2 e3
      subst e1 e2 e3
      exact ⟨[], Reads.none_, rfl, by omega, by simp⟩
    · injection hv with e1 e2 e3
      subst e1 e2 e3
      refine ⟨(List.range n).map fun i => ⟨X i 0, X i 1, X i 2, X i 3, X i 4, X i 5⟩, ?_, by simp, ?_, ?_⟩
      · refine reads_of_fields OpD.vals OpD.six (by omega) _ (by simp) fun i hi j hj => ?_
        rw [(hX i hi j hj).1]
        match j, hj with
        | 0, _ | 1, _ | 2, _ | 3, _ | 4, _ | 5, _ => simp [OpD.vals]
      · simp only at hx
        subst hx
        have := sized_slice hsz (j := 0) (t := 22) (e := 36) rfl rfl Try.underlying22
        change (elems.length + sp.length) * Try.prog.bytesOf 36 ≤ 140737488351232 at this
        rw [bytes36] at this
        omega
      · intro o ho
        obtain ⟨i, hi, rfl⟩ := List.mem_map.1 ho
        have hi' : i < n := by simpa using hi
        have k0 := (hX i hi' 0 (by omega)).2
        have k1 := (hX i hi' 1 (by omega)).2
        exact ⟨k0.1, k0.2, k1.1, k1.2⟩
  clear hA0 hval0
  refine (Does_any n c W.heap.size A ops W (Nat.le_refl _) hr hn hb hbd).mono fun e W' ⟨he, ht⟩ => ?_
  subst he
  have bel := ht.below
  exact ⟨_, rfl, _, _, _, [], _, [], hW', trodAll_mk1 (shut_bool Try.underlying4 _), (trodAll_cons_mk (Below.trod laidOut (by kernel_rfl) (of_decide_eq_true (by kernel_rfl)) k2 bel lt2) trodAll_mk0), rfl, bel.frame _, fun h => by cases h⟩

theorem over : Rows.gateDoesRow.holds Try.pinned (OpenSpec.ofChange Rows.gateDoesSpec) :=
  OpenClaim.holds_of_wide 5 Try.f5 rfl rfl rfl rfl rfl rfl rfl ⟨rfl, rfl, rfl, rfl, rfl⟩ rfl rfl rfl rfl rfl (by kernel_rfl) Try.func5 (by kernel_rfl)
    (of_decide_eq_true (by kernel_rfl)) (by unfold Func.isWrapper; first | (rw [if_pos (by decide +kernel)]; kernel_rfl) | (rw [if_neg (by decide +kernel)]; exact ⟨rfl, rfl⟩))
    (fun os started H enc _ => lifted os started H enc)

theorem proved : Rows.GateDoesSaid := over
#print axioms proved
end Go.Proofs.Ytcineclpmacfhaa.gateDoes
