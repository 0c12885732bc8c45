/-
  No statement is proved here: how pile's methods are found through the interface.
-/
import Derived.Test.YtfdgkikgafojpaaQg
import Derived.Deep.LoopGhost
namespace Go.Proofs.Ytfdgkikgafojpaa
open Go.RowKit Go.Maps

theorem m_push (n : Nat) (a : Addr) (w : World) : (method (n + 1) 65 (.pointer (some a)) "Push").run Try.prog w = .ok (78, .pointer (some a)) w := by kernel_rfl
theorem m_pop (n : Nat) (a : Addr) (w : World) : (method (n + 1) 65 (.pointer (some a)) "Pop").run Try.prog w = .ok (77, .pointer (some a)) w := by kernel_rfl
theorem run_wrapnil (P : Program) (ats : Array TypeId) (ty : TypeId) (a : Addr) (s m : ByteArray) (w : World) : (Builtin.ssaWrapNilChk_ ats ty #[.pointer (some a), .string s, .string m]).run P w = .ok (.pointer (some a)) w := rfl
theorem m_val (name : String) (f : Nat) (hrow : (Try.prog.info? 65).map (fun i => (i.methods.find? (·.name == name)).map fun m => (m.path.toList, m.func)) = some (some ([], some (f, false))))
    (n g : Nat) (v : Value) (w : World) (h : w.cell? ⟨g, 0, none⟩ = some v) : (method (n + 1) 65 (.pointer (some ⟨g, 0, none⟩)) name).run Try.prog w = .ok (f, v) w := by
  cases hi : Try.prog.info? 65 with
  | none => rw [hi] at hrow; cases hrow
  | some i =>
    rw [hi] at hrow
    simp only [Option.map_some, Option.some.injEq] at hrow
    cases hm : i.methods.find? (·.name == name) with
    | none => rw [hm] at hrow; cases hrow
    | some m =>
      rw [hm] at hrow
      simp only [Option.map_some, Option.some.injEq, Prod.mk.injEq] at hrow
      obtain ⟨hp, hf⟩ := hrow
      have hagg : ∀ w, (isAgg 58).run Try.prog w = .ok false w := fun _ => by kernel_rfl
      have hpe : m.path = #[] := by rw [← Array.toArray_toList (xs := m.path), hp]
      unfold method
      simp [run_typeInfo _ hi, hm, hpe, follow, hf, receiverAt, run_underlying Try.underlying65, Place.get, run_wrapnil, asAddr, loadVar, hagg, run_load, h, strVal, Result.andThen]
theorem m_len (n g : Nat) (v : Value) (w : World) (h : w.cell? ⟨g, 0, none⟩ = some v) : (method (n + 1) 65 (.pointer (some ⟨g, 0, none⟩)) "Len").run Try.prog w = .ok (74, v) w := m_val "Len" _ (by kernel_rfl) n g v w h
theorem m_less (n g : Nat) (v : Value) (w : World) (h : w.cell? ⟨g, 0, none⟩ = some v) : (method (n + 1) 65 (.pointer (some ⟨g, 0, none⟩)) "Less").run Try.prog w = .ok (75, v) w := m_val "Less" _ (by kernel_rfl) n g v w h
theorem m_swap (n g : Nat) (v : Value) (w : World) (h : w.cell? ⟨g, 0, none⟩ = some v) : (method (n + 1) 65 (.pointer (some ⟨g, 0, none⟩)) "Swap").run Try.prog w = .ok (76, v) w := m_val "Swap" _ (by kernel_rfl) n g v w h
end Go.Proofs.Ytfdgkikgafojpaa
