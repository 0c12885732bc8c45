/-
  No statement is proved here: container/heap's up over a pile (a walk of the code).
-/
import Derived.Test.YtfdgkikgafojpaaQh
namespace Go.Proofs.Ytfdgkikgafojpaa
open Go.RowKit Go.Maps

theorem Pile.lessAt {w w' : World} {base g mb b n c : Nat} {l : List Ent} (h : Pile w base g mb (.slice (some ⟨b, 0, none⟩) n c) l) (ht : Tch None_ w w') (i j : Nat) (hi : i < l.length) (hj : j < l.length) :
    Calls Try.prog 75 #[.slice (some ⟨b, 0, none⟩) n c, .int .i64 i, .int .i64 j] w' fun e w'' => e = .returned (.bool (lessB (el l i) (el l j))) ∧ Gr w' w'' := by
  have hr := (h.keep ht).row
  obtain ⟨A', c', hv, _, _⟩ := own_form hr
  injection hv with a1 a2 a3
  subst a2
  exact Less_any b l.length c i j _ _ w' (own_at8 hr i hi) (own_at8 hr j hj) hi hj

set_option maxRecDepth 100000 in
set_option maxHeartbeats 1000000 in
theorem up_any (base g mb b c j0 : Nat) (l : List Ent) (w : World) (h : Pile w base g mb (.slice (some ⟨b, 0, none⟩) l.length c) l) (hu : UpInv l j0) (hl : l.length ≤ 4096) :
    Calls Try.prog 29 #[.iface 65 (.pointer (some ⟨g, 0, none⟩)), .int .i64 j0] w fun x w' => x = .returned (.tuple #[]) ∧ ∃ l', l'.Perm l ∧ Heap l' ∧ Pile w' base g mb (.slice (some ⟨b, 0, none⟩) l.length c) l' ∧ Tch (fun k => k = b) w w' := by
  have hms := m_swap
  have hml := m_less
  have HP := Lib.hid h
  have HU := Lib.hid hu
  clear h hu
  go_enter Try.func29, Try.ntmps29
  go_wp2_with fail
  go_loopg [1] j0 (fun gh s1 wr => ∃ (l' : List Ent) (j : Nat), s1 = .int .i64 j ∧ j = gh ∧ Hid (l'.Perm l) ∧ Hid (UpInv l' j) ∧ Hid (Pile wr base g mb (.slice (some ⟨b, 0, none⟩) l.length c) l') ∧ Hid (Tch (fun k => k = b) w wr))
  case atStart => exact ⟨l, j0, rfl, rfl, List.Perm.refl _, HU.out, HP.out, Tch.refl _ _⟩
  case round =>
    obtain ⟨l', j, rfl, rfl, hp, hu, hP, hT⟩ := hrel
    have hlen : l'.length = l.length := hp.out.length_eq
    have hj := hu.out.lt
    have c0 : wr.cell? ⟨g, 0, none⟩ = some (.slice (some ⟨b, 0, none⟩) l.length c) := by simpa using hP.out.box.cell 0
    by_cases hj0 : j = 0
    · subst hj0
      go_wp2_with fail
      go_end0
      exact ⟨rfl, l', hp.out, hu.out.done (fun h => absurd h (by omega)), hP.out, hT.out⟩
    · obtain ⟨p, hp2⟩ : ∃ p, (j - 1) / 2 = p := ⟨_, rfl⟩
      have hpj : p < j := by omega
      have hq : ((j : Int) - 1) / 2 = (p : Int) := by omega
      have hj1 : (1 : Int) ≤ (j : Int) := by omega
      have hpb : ((p : Int) == (j : Int)) = false := by simp; omega
      have hpl : p < l'.length := by omega
      have HLESS := Lib.hid (fun (W : World) (ht : Tch None_ wr W) => hP.out.lessAt ht j p (by omega) hpl)
      have HNE := Lib.hid (hP.out.ne b rfl)
      have HP2 := Lib.hid hp2
      clear hp2
      cases hb : lessB (el l' j) (el l' p) with
      | false =>
        rw [hb] at HLESS
        have HB := Lib.hid hb
        clear hb
        go_wp2_with (go_at_call 75; refine (HLESS.out _ (Tch.refl _ _)).mono ?_; rintro e w1 ⟨rfl, hg⟩)
        go_end0
        refine ⟨rfl, l', hp.out, hu.out.done (fun _ hlt => ?_), hP.out.keep hg.tch, hT.out.quiet hg.tch⟩
        have := (lessB_iff _ _).2 (by rw [HP2.out] at hlt; exact hlt)
        rw [HB.out] at this
        cases this
      | true =>
        rw [hb] at HLESS
        have HB := Lib.hid ((lessB_iff _ _).1 hb)
        clear hb
        go_wp2_with (go_at_call 75; refine (HLESS.out _ (Tch.refl _ _)).mono ?_; rintro e w1 ⟨rfl, hg⟩; have c1 : w1.cell? ⟨g, 0, none⟩ = some (.slice (some ⟨b, 0, none⟩) l.length c) := (by simpa using (hP.out.keep hg.tch).box.cell 0))
        have hrow1 : w1.ownsRow base 33 8 (.slice (some ⟨b, 0, none⟩) l.length c) l.length (l'.flatMap Ent.cells) := by have := (hP.out.keep hg.tch).row; rwa [hlen] at this
        refine (Swap_any base b l.length c p j l' w1 hrow1 (by omega) (by omega)).mono ?_
        rintro e w2 ⟨rfl, hrow2, hT2⟩
        have HR2 := Lib.hid hrow2
        have HT2 := Lib.hid hT2
        clear hrow1 hrow2 hT2 c1 c0
        go_wp2_with fail
        go_roundg p
        case measure => exact hpj
        case rel =>
          have hlen2 : (swapL l' p j).length = l.length := by simpa using hlen
          have hp2 := HP2.out
          have hne := HNE.out
          subst hp2
          refine ⟨swapL l' _ j, _, rfl, rfl, (perm_swapL (by omega) (by omega)).trans hp.out, hu.out.step (by omega) HB.out, ⟨(hP.out.box.keep hg.tch).tch HT2.out (fun e => hne e.symm), ?_⟩, (hT.out.quiet hg.tch).then HT2.out⟩
          rw [hlen2]
          exact HR2.out
end Go.Proofs.Ytfdgkikgafojpaa
