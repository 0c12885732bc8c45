/-
  QueueParts: for every input the call returns true, and each argument reads afterwards as it read before. Conditions: none.
-/
import Derived.Test.YtfdgkikgafojpaaRows
import Derived.Test.YtfdgkikgafojpaaParts
import Derived.Test.YtfdgkikgafojpaaEnts
import Derived.ShutString
import Derived.ChangeOld
namespace Go.Proofs.Ytfdgkikgafojpaa.queueParts
open Go.ChangeShapes Go.WideShapes Go.ChangeAt Go.RowKit

theorem own : ownKnob Try.prog.godebug = none := by kernel_rfl
theorem laidOut : laidOutB Try.prog = true := by kernel_rfl

set_option maxRecDepth 100000 in
theorem lifted (os : Os) (started : os.Started) (H : Type) (enc : TypeId × Value → H) :
    ReturnsInHanded {} Try.checked os 5 .any (Rows.queuePartsSpec.pre6 enc Try.prog Try.f5 Rows.queuePartsRow.domain false) (Rows.queuePartsSpec.post enc Try.prog Try.f5 false true false false) := by
  refine returnsInHanded_of_change_sized (C := Try.checked) own started (by kernel_rfl) Try.func5
    (ChangeSpec.witness6 (enc := enc) (C := Try.checked) false ⟨#[], #[.slice none 0 0, .int .i64 0], []⟩ 8 (by kernel_rfl) (by kernel_rfl) (by kernel_rfl) (by kernel_rfl)) ?_
  intro W base args ds gs before hval0 hW hcnd hsz _
  have hval : ∀ (j : Nat) t v, Try.f5.params[j]? = some t → args[j]? = some v → Value.okWide Try.prog W .any base t v := hval0
  have hW' := hW
  obtain ⟨p, q, hA0, hV, rfl, hfz, hnd⟩ := hW
  have hA : DataW.TrodAll enc Try.prog W 0 (fun _ => true) true Try.f5.params.toList args.toList ds p := hA0
  rw [Try.params5] at hA hval
  obtain ⟨v0, vs0, d0, ds0, p0, q0, hargs, rfl, rfl, h0, r0⟩ := trodAll_cons hA
  obtain ⟨v1, vs1, d1, ds1, p1, q1, rfl, rfl, rfl, h1, r1⟩ := trodAll_cons r0
  obtain ⟨rfl, rfl, rfl⟩ := trodAll_nil r1
  obtain rfl : args = #[v0, v1] := by cases args; simp_all
  obtain ⟨rfl, rfl⟩ := trodVars_none hV
  obtain ⟨A, n, c, rfl⟩ := okWide_slice Try.underlying22 (hval 0 22 v0 rfl rfl)
  obtain ⟨fr, rfl, rfl, rfl, w1⟩ := open_int Try.underlying2 (hval 1 2 v1 rfl rfl) h1
  have k0 := h0
  have lt0 : ∀ x ∈ p0, x.block < W.heap.size := by obtain ⟨m, hm⟩ := k0; exact DataW.trod_lt m _ _ _ hm
  obtain ⟨ents, hr, hn, hok, hb⟩ : ∃ ents : List Ent, Reads W W.heap.size 8 A n (ents.flatMap Ent.cells) ∧ ents.length = n ∧ (∀ e ∈ ents, okK e.key) ∧ n * 64 ≤ 140737488351232 := by
    obtain ⟨fuel, hf⟩ := h0
    obtain ⟨ents, h1, h2, h3, h4⟩ := open_ents hf
    refine ⟨ents, h1, h2, h3, ?_⟩
    rcases h4 with h4 | ⟨elems, sp, hx, hel⟩
    · omega
    · simp only at hx
      subst hx
      have := sized_slice hsz (j := 0) (t := 22) (e := 33) rfl rfl Try.underlying22
      change (elems.length + sp.length) * Try.prog.bytesOf 33 ≤ 140737488351232 at this
      rw [bytesEnt] at this
      omega
  clear hA0 hval0
  refine (Parts_any n c A ents fr W hn hr hok hb).mono fun e W' ⟨he, ht⟩ => ?_
  subst he
  have bel := ht.below
  exact ⟨_, rfl, _, _, _, [], _, [], hW', trodAll_mk1 (shut_bool Try.underlying4 _), (trodAll_cons_mk (Below.trod laidOut (by kernel_rfl) (of_decide_eq_true (by kernel_rfl)) k0 bel lt0) (trodAll_cons_mk (shut_int Try.underlying2 w1) trodAll_mk0)), rfl, bel.frame _, fun h => by cases h⟩

theorem over : Rows.queuePartsRow.holds Try.pinned (OpenSpec.ofChange Rows.queuePartsSpec) :=
  OpenClaim.holds_of_wide 5 Try.f5 rfl rfl rfl rfl rfl rfl rfl ⟨rfl, rfl, rfl, rfl, rfl⟩ rfl rfl rfl rfl rfl (by kernel_rfl) Try.func5 (by kernel_rfl)
    (of_decide_eq_true (by kernel_rfl)) (by unfold Func.isWrapper; first | (rw [if_pos (by decide +kernel)]; kernel_rfl) | (rw [if_neg (by decide +kernel)]; exact ⟨rfl, rfl⟩))
    (fun os started H enc _ => lifted os started H enc)

theorem proved : Rows.QueuePartsSaid := over
#print axioms proved
end Go.Proofs.Ytfdgkikgafojpaa.queueParts
