/-
  GateLeast: for every input the call returns true, and each argument reads afterwards as it read before. Conditions: none.
-/
import Derived.Test.YtcineclpmacfhaaRows
import Derived.Test.YtcineclpmacfhaaLeast
import Derived.Test.YtcineclpmacfhaaArgs
import Derived.ShutString
import Derived.ChangeOld
namespace Go.Proofs.Ytcineclpmacfhaa.gateLeast
open Go.ChangeShapes Go.WideShapes Go.ChangeAt Go.RowKit

theorem own : ownKnob Try.prog.godebug = none := by kernel_rfl
theorem laidOut : laidOutB Try.prog = true := by kernel_rfl
theorem cells36 : Try.prog.cellsOf 36 = 6 := by kernel_rfl
theorem bytes36 : Try.prog.bytesOf 36 = 48 := by kernel_rfl

theorem walk (p s : Int) (n c : Nat) (A : Option Addr) (ops : List OpD) (w : World) (hr : Reads w w.heap.size 6 A n (ops.flatMap OpD.vals)) (hn : ops.length = n) (hsz : n * 48 ≤ 140737488351232) :
    Calls Try.prog 4 #[.int .i64 p, .int .i64 s, .slice A n c] w fun e w' => e = .returned (.bool true) ∧ Below w.heap.size w w' := by
  cases h : newB p s with
  | false => exact (Least_no p s n c A w h (by omega)).mono fun _ _ h => ⟨h.1, h.2.below⟩
  | true =>
    obtain ⟨h1, h2, h3, h4⟩ := newB_yes h
    obtain ⟨p, rfl⟩ := Int.eq_ofNat_of_zero_le (show 0 ≤ p by omega)
    obtain ⟨s, rfl⟩ := Int.eq_ofNat_of_zero_le h3
    exact (Least_yes p s n c w.heap.size A ops w (by omega) (by omega) (by omega) (Nat.le_refl _) hr hn hsz).mono fun _ _ h => ⟨h.1, h.2.below⟩

theorem intFields : ∀ (j : Nat) (f : Field), (match Try.prog.underlying 36 with | some (.struct fs) => fs | _ => #[])[j]? = some f → Try.prog.underlying f.type = some (.int .i64) := by
  rw [Try.underlying36]
  intro j f h
  match j, h with
  | 0, h | 1, h | 2, h | 3, h | 4, h | 5, h => simp at h; subst h; first | exact Try.underlying3 | exact Try.underlying2
  | j + 6, h => simp at h

set_option maxRecDepth 100000 in
theorem lifted (os : Os) (started : os.Started) (H : Type) (enc : TypeId × Value → H) :
    ReturnsInHanded {} Try.checked os 4 .any (Rows.gateLeastSpec.pre6 enc Try.prog Try.f4 Rows.gateLeastRow.domain false) (Rows.gateLeastSpec.post enc Try.prog Try.f4 false true false false) := by
  refine returnsInHanded_of_change_sized (C := Try.checked) own started (by kernel_rfl) Try.func4
    (ChangeSpec.witness6 (enc := enc) (C := Try.checked) false ⟨#[], #[.int .i64 0, .int .i64 0, .slice none 0 0], []⟩ 8 (by kernel_rfl) (by kernel_rfl) (by kernel_rfl) (by kernel_rfl)) ?_
  intro W base args ds gs before hval0 hW hcnd hsz _
  have hval : ∀ (j : Nat) t v, Try.f4.params[j]? = some t → args[j]? = some v → Value.okWide Try.prog W .any base t v := hval0
  have hW' := hW
  obtain ⟨p, q, hA0, hV, rfl, hfz, hnd⟩ := hW
  have hA : DataW.TrodAll enc Try.prog W 0 (fun _ => true) true Try.f4.params.toList args.toList ds p := hA0
  rw [Try.params4] at hA hval
  obtain ⟨v0, vs0, d0, ds0, p0, q0, hargs, rfl, rfl, h0, r0⟩ := trodAll_cons hA
  obtain ⟨v1, vs1, d1, ds1, p1, q1, rfl, rfl, rfl, h1, r1⟩ := trodAll_cons r0
  obtain ⟨v2, vs2, d2, ds2, p2, q2, rfl, rfl, rfl, h2, r2⟩ := trodAll_cons r1
  obtain ⟨rfl, rfl, rfl⟩ := trodAll_nil r2
  obtain rfl : args = #[v0, v1, v2] := by cases args; simp_all
  obtain ⟨rfl, rfl⟩ := trodVars_none hV
  obtain ⟨a0, rfl, rfl, rfl, w0⟩ := open_int Try.underlying3 (hval 0 3 v0 rfl rfl) h0
  obtain ⟨a1, rfl, rfl, rfl, w1⟩ := open_int Try.underlying3 (hval 1 3 v1 rfl rfl) h1
  obtain ⟨A, n, c, rfl⟩ := okWide_slice Try.underlying22 (hval 2 22 v2 rfl rfl)
  have k2 := h2
  have lt2 : ∀ x ∈ p2, x.block < W.heap.size := by obtain ⟨m, hm⟩ := k2; exact DataW.trod_lt m _ _ _ hm
  obtain ⟨ops, hr, hn, hb⟩ : ∃ ops : List OpD, Reads W W.heap.size 6 A n (ops.flatMap OpD.vals) ∧ ops.length = n ∧ n * 48 ≤ 140737488351232 := by
    obtain ⟨fuel, hf⟩ := h2
    rcases open_int_structs 6 Try.underlying22 Try.underlying36 (by kernel_rfl) cells36 rfl (by have := intFields; rwa [Try.underlying36] at this) hf ⟨_, _, _, rfl⟩ with ⟨hv, _⟩ | ⟨a, len, cap, elems, sp, X, hv, _, hm, hx, hel, hX⟩
    · injection hv with e1 e2 e3
      subst e1 e2 e3
      exact ⟨[], Reads.none_, rfl, by omega⟩
    · injection hv with e1 e2 e3
      subst e1 e2 e3
      refine ⟨(List.range n).map fun i => ⟨X i 0, X i 1, X i 2, X i 3, X i 4, X i 5⟩, ?_, by simp, ?_⟩
      · refine reads_of_fields OpD.vals OpD.six (by omega) _ (by simp) fun i hi j hj => ?_
        rw [(hX i hi j hj).1]
        match j, hj with
        | 0, _ | 1, _ | 2, _ | 3, _ | 4, _ | 5, _ => simp [OpD.vals]
      · simp only at hx
        subst hx
        have := sized_slice hsz (j := 2) (t := 22) (e := 36) rfl rfl Try.underlying22
        change (elems.length + sp.length) * Try.prog.bytesOf 36 ≤ 140737488351232 at this
        rw [bytes36] at this
        omega
  clear hA0 hval0
  refine (walk a0 a1 n c A ops W hr hn hb).mono fun e W' ⟨he, bel⟩ => ?_
  subst he
  exact ⟨_, rfl, _, _, _, [], _, [], hW', trodAll_mk1 (shut_bool Try.underlying4 _), (trodAll_cons_mk (shut_int Try.underlying3 w0) (trodAll_cons_mk (shut_int Try.underlying3 w1) (trodAll_cons_mk (Below.trod laidOut (by kernel_rfl) (of_decide_eq_true (by kernel_rfl)) k2 bel lt2) trodAll_mk0))), rfl, bel.frame _, fun h => by cases h⟩

theorem over : Rows.gateLeastRow.holds Try.pinned (OpenSpec.ofChange Rows.gateLeastSpec) :=
  OpenClaim.holds_of_wide 4 Try.f4 rfl rfl rfl rfl rfl rfl rfl ⟨rfl, rfl, rfl, rfl, rfl⟩ rfl rfl rfl rfl rfl (by kernel_rfl) Try.func4 (by kernel_rfl)
    (of_decide_eq_true (by kernel_rfl)) (by unfold Func.isWrapper; first | (rw [if_pos (by decide +kernel)]; kernel_rfl) | (rw [if_neg (by decide +kernel)]; exact ⟨rfl, rfl⟩))
    (fun os started H enc _ => lifted os started H enc)

theorem proved : Rows.GateLeastSaid := over
#print axioms proved
end Go.Proofs.Ytcineclpmacfhaa.gateLeast
