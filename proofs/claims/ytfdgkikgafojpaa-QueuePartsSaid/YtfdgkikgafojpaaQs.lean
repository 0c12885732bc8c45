/-
  No statement is proved here: what the reference's Same comes to at two lists that are the same (a walk of the code).
-/
import Derived.Test.YtfdgkikgafojpaaQr
namespace Go.Proofs.Ytfdgkikgafojpaa
open Go.RowKit Go.Maps

set_option maxRecDepth 100000 in
set_option maxHeartbeats 1000000 in
theorem Same_yes (n c1 c2 B : Nat) (A1 A2 : Option Addr) (l : List Ent) (w : World) (hB : B ≤ w.heap.size) (hn : l.length = n) (hr1 : Reads w B 8 A1 n (l.flatMap Ent.cells)) (hr2 : Reads w B 8 A2 n (l.flatMap Ent.cells)) (hm : n ≤ 1152921504606846976) :
    Calls Try.prog 20 #[.slice A1 n c1, .slice A2 n c2] w fun e w' => e = .returned (.bool true) ∧ Gr w w' := by
  have H1 := Lib.hid hr1
  have H2 := Lib.hid hr2
  have HN := Lib.hid hn
  clear hr1 hr2 hn
  go_enter Try.func20, Try.ntmps20
  go_wp2_with fail
  go_loopg [5] n (fun gh s5 wr => ∃ k : Nat, s5 = .int .i64 k ∧ n - k = gh ∧ k ≤ n ∧ Hid (Gr w wr))
  case atStart => exact ⟨0, rfl, rfl, by omega, Gr.refl w⟩
  case round =>
    obtain ⟨k, rfl, rfl, hk, HG⟩ := hrel
    by_cases hlt : k < n
    · obtain ⟨b1, o1, rfl, _, x0, x1, x2, x3, x4, x5, x6, x7⟩ := (H1.out.tch HG.out.tch hB (fun _ _ h => h)).ent HN.out k hlt
      obtain ⟨b2, o2, rfl, _, y0, y1, y2, y3, y4, y5, y6, y7⟩ := (H2.out.tch HG.out.tch hB (fun _ _ h => h)).ent HN.out k hlt
      go_wp2_with fail
      go_quiet (fail)
      go_wp2_with fail
      go_roundg (n - (k + 1))
      case measure => omega
      case rel => exact ⟨k + 1, by go_num, rfl, by omega, HG.out.drewN _⟩
    · go_wp2_with fail
      go_ret
      exact ⟨rfl, HG.out⟩
end Go.Proofs.Ytfdgkikgafojpaa
