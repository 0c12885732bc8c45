/-
  No statement is proved here: container/heap's down over a pile (a walk of the code).
-/
import Derived.Test.YtfdgkikgafojpaaQi
namespace Go.Proofs.Ytfdgkikgafojpaa
open Go.RowKit Go.Maps

/-- What stands at the head of down's loop. -/
structure DownAt (base g mb b c n : Nat) (l : List Ent) (w wr : World) (l' : List Ent) (i : Nat) : Prop where
  perm : l'.Perm l
  inv : DownInv l' n i
  last : el l' n = el l n
  pile : Pile wr base g mb (.slice (some ⟨b, 0, none⟩) (n + 1) c) l'
  tch : Tch (fun k => k = b) w wr
theorem DownAt.keep {base g mb b c n : Nat} {l : List Ent} {w wr w' : World} {l' : List Ent} {i : Nat} (h : DownAt base g mb b c n l w wr l' i) (ht : Tch None_ wr w') : DownAt base g mb b c n l w w' l' i := ⟨h.perm, h.inv, h.last, h.pile.keep ht, h.tch.quiet ht⟩
theorem DownAt.swap {base g mb b c n : Nat} {l : List Ent} {w wr w' : World} {l' : List Ent} {i j : Nat} (h : DownAt base g mb b c n l w wr l' i) (hl : l.length = n + 1) (hj : j < n) (hij : (j - 1) / 2 = i) (j0 : 0 < j) (hmin : ∀ k, 0 < k → k < n → (k - 1) / 2 = i → (el l' j).le (el l' k)) (hlt : (el l' j).lt (el l' i))
    (hr : w'.ownsRow base 33 8 (.slice (some ⟨b, 0, none⟩) (n + 1) c) (n + 1) ((swapL l' i j).flatMap Ent.cells)) (ht : Tch (fun k => k = b) wr w') : DownAt base g mb b c n l w w' (swapL l' i j) j := by
  have hll : l'.length = n + 1 := h.perm.length_eq.trans hl
  refine ⟨(perm_swapL (by omega) (by omega)).trans h.perm, h.inv.step hj hij j0 hmin hlt, ?_, ⟨h.pile.box.tch ht (fun e => h.pile.ne b rfl e.symm), ?_⟩, h.tch.then ht⟩
  · rw [el_swapL (by omega) (by omega), if_neg (by omega), if_neg (by omega)]
    exact h.last
  · simpa [hll] using hr

set_option maxRecDepth 100000 in
set_option maxHeartbeats 2000000 in
theorem down_any (base g mb b c n : Nat) (l : List Ent) (w : World) (h : Pile w base g mb (.slice (some ⟨b, 0, none⟩) (n + 1) c) l) (hu : DownInv l n 0) (hl : l.length = n + 1) (hn : n ≤ 4096) :
    Calls Try.prog 30 #[.iface 65 (.pointer (some ⟨g, 0, none⟩)), .int .i64 0, .int .i64 n] w fun x w' => (∃ r, x = .returned (.bool r)) ∧ ∃ l' i, DownAt base g mb b c n l w w' l' i ∧ Heap (l'.take n) := by
  have hms := m_swap
  have hml := m_less
  have H0 : Hid (DownAt base g mb b c n l w w l 0) := ⟨List.Perm.refl _, hu, rfl, h, Tch.refl _ _⟩
  clear h hu
  go_enter Try.func30, Try.ntmps30
  go_wp2_with fail
  go_loopg [7] (n + 1) (fun gh s7 wr => ∃ (l' : List Ent) (i : Nat), s7 = .int .i64 i ∧ n + 1 - i = gh ∧ i ≤ n ∧ Hid (DownAt base g mb b c n l w wr l' i))
  case atStart => exact ⟨l, 0, rfl, rfl, by omega, H0.out⟩
  case round =>
    obtain ⟨l', i, rfl, rfl, hin, HD⟩ := hrel
    have hlen : l'.length = n + 1 := HD.out.perm.length_eq.trans hl
    have c0 : wr.cell? ⟨g, 0, none⟩ = some (.slice (some ⟨b, 0, none⟩) (n + 1) c) := by simpa using HD.out.pile.box.cell 0
    obtain ⟨p1, hp1⟩ : ∃ p, 2 * i + 1 = p := ⟨_, rfl⟩
    have hq1 : 2 * (i : Int) + 1 = (p1 : Int) := by omega
    by_cases hA : n ≤ p1
    · have HL1 := Lib.hid hp1
      clear hp1
      go_wp2_with fail
      go_ret
      exact ⟨⟨_, rfl⟩, l', i, HD.out, HD.out.inv.done (fun k k0 k1 k2 => by have := HL1.out; omega)⟩
    · obtain ⟨p2, hp2⟩ : ∃ p, p1 + 1 = p := ⟨_, rfl⟩
      have hq2 : (p1 : Int) + 1 = (p2 : Int) := by omega
      have hi2 : (2 : Int) * (i : Int) ≤ 8192 := by omega
      have hne : i ≤ 4096 := by omega
      have HL1 := Lib.hid hp1
      have HL2 := Lib.hid hp2
      have HLESS := Lib.hid (fun (W : World) (ht : Tch None_ wr W) (x y : Nat) (hx : x < n + 1) (hy : y < n + 1) => HD.out.pile.lessAt ht x y (by omega) (by omega))
      by_cases hB : p2 < n
      · have C1 := Lib.hid (HLESS.out wr (Tch.refl _ _) p2 p1 (by omega) (by omega))
        cases hb1 : lessB (el l' p2) (el l' p1) with
        | true =>
          rw [hb1] at C1
          have HM : Hid (∀ k, 0 < k → k < n → (k - 1) / 2 = i → (el l' p2).le (el l' k)) := by
            intro k k0 k1 k2
            have h1 := (lessB_iff _ _).1 hb1
            rcases (show k = p1 ∨ k = p2 by omega) with rfl | rfl
            · exact Ent.lt_le h1
            · exact Ent.le_refl _
          clear hb1
          have C2 := Lib.hid (fun W ht => HLESS.out W ht p2 i (by omega) (by omega))
          cases hb2 : lessB (el l' p2) (el l' i) with
          | false =>
            rw [hb2] at C2
            have HB2 : Hid (¬ (el l' p2).lt (el l' i)) := fun h => by rw [(lessB_iff _ _).2 h] at hb2; cases hb2
            clear hb2 hp1 hp2 HLESS
            go_wp2_with (first
            | (go_at_call 75; (with_reducible refine C1.out.mono ?_); rintro e w1 ⟨rfl, hg1⟩; have T1 := Lib.hid hg1.tch; have c1 : w1.cell? ⟨g, 0, none⟩ = some (.slice (some ⟨b, 0, none⟩) (n + 1) c) := (by simpa using (HD.out.pile.keep hg1.tch).box.cell 0); clear hg1)
            | (go_at_call 75; (with_reducible refine (C2.out _ T1.out).mono ?_); rintro e w2 ⟨rfl, hg2⟩; have T2 := Lib.hid (Tch.quiet T1.out hg2.tch); have c2 : w2.cell? ⟨g, 0, none⟩ = some (.slice (some ⟨b, 0, none⟩) (n + 1) c) := (by simpa using (HD.out.pile.keep T2.out).box.cell 0); clear hg2))
            go_ret
            exact ⟨⟨_, rfl⟩, l', i, HD.out.keep T2.out, HD.out.inv.done (fun k k0 k1 k2 => Ent.le_trans HB2.out (HM.out k k0 k1 k2))⟩
          | true =>
            rw [hb2] at C2
            have HB2 := Lib.hid ((lessB_iff _ _).1 hb2)
            clear hb2 hp1 hp2 HLESS
            go_wp2_with (first
            | (go_at_call 75; (with_reducible refine C1.out.mono ?_); rintro e w1 ⟨rfl, hg1⟩; have T1 := Lib.hid hg1.tch; have c1 : w1.cell? ⟨g, 0, none⟩ = some (.slice (some ⟨b, 0, none⟩) (n + 1) c) := (by simpa using (HD.out.pile.keep hg1.tch).box.cell 0); clear hg1)
            | (go_at_call 75; (with_reducible refine (C2.out _ T1.out).mono ?_); rintro e w2 ⟨rfl, hg2⟩; have T2 := Lib.hid (Tch.quiet T1.out hg2.tch); have c2 : w2.cell? ⟨g, 0, none⟩ = some (.slice (some ⟨b, 0, none⟩) (n + 1) c) := (by simpa using (HD.out.pile.keep T2.out).box.cell 0); clear hg2))
            have hrow2 : w2.ownsRow base 33 8 (.slice (some ⟨b, 0, none⟩) (n + 1) c) (n + 1) (l'.flatMap Ent.cells) := by have := (HD.out.pile.keep T2.out).row; rwa [hlen] at this
            refine (Swap_any base b (n + 1) c i p2 l' w2 hrow2 (by omega) (by omega)).mono ?_
            rintro e w3 ⟨rfl, hrow3, hT3⟩
            have HN3 := Lib.hid ((HD.out.keep T2.out).swap hl hB (by have := HL1.out; have := HL2.out; omega) (by have := HL1.out; have := HL2.out; omega) HM.out HB2.out hrow3 hT3)
            clear hrow2 hrow3 hT3 c0 c2
            go_wp2_with fail
            go_roundg (n + 1 - p2)
            case measure => have := HL1.out; have := HL2.out; omega
            case rel => exact ⟨swapL l' i p2, p2, rfl, rfl, by omega, HN3.out⟩
        | false =>
          rw [hb1] at C1
          have HM : Hid (∀ k, 0 < k → k < n → (k - 1) / 2 = i → (el l' p1).le (el l' k)) := by
            intro k k0 k1 k2
            rcases (show k = p1 ∨ k = p2 by omega) with rfl | rfl
            · exact Ent.le_refl _
            · exact fun h => by rw [(lessB_iff _ _).2 h] at hb1; cases hb1
          clear hb1
          have C2 := Lib.hid (fun W ht => HLESS.out W ht p1 i (by omega) (by omega))
          cases hb2 : lessB (el l' p1) (el l' i) with
          | false =>
            rw [hb2] at C2
            have HB2 : Hid (¬ (el l' p1).lt (el l' i)) := fun h => by rw [(lessB_iff _ _).2 h] at hb2; cases hb2
            clear hb2 hp1 hp2 HLESS
            go_wp2_with (first
            | (go_at_call 75; (with_reducible refine C1.out.mono ?_); rintro e w1 ⟨rfl, hg1⟩; have T1 := Lib.hid hg1.tch; have c1 : w1.cell? ⟨g, 0, none⟩ = some (.slice (some ⟨b, 0, none⟩) (n + 1) c) := (by simpa using (HD.out.pile.keep hg1.tch).box.cell 0); clear hg1)
            | (go_at_call 75; (with_reducible refine (C2.out _ T1.out).mono ?_); rintro e w2 ⟨rfl, hg2⟩; have T2 := Lib.hid (Tch.quiet T1.out hg2.tch); have c2 : w2.cell? ⟨g, 0, none⟩ = some (.slice (some ⟨b, 0, none⟩) (n + 1) c) := (by simpa using (HD.out.pile.keep T2.out).box.cell 0); clear hg2))
            go_ret
            exact ⟨⟨_, rfl⟩, l', i, HD.out.keep T2.out, HD.out.inv.done (fun k k0 k1 k2 => Ent.le_trans HB2.out (HM.out k k0 k1 k2))⟩
          | true =>
            rw [hb2] at C2
            have HB2 := Lib.hid ((lessB_iff _ _).1 hb2)
            clear hb2 hp1 hp2 HLESS
            go_wp2_with (first
            | (go_at_call 75; (with_reducible refine C1.out.mono ?_); rintro e w1 ⟨rfl, hg1⟩; have T1 := Lib.hid hg1.tch; have c1 : w1.cell? ⟨g, 0, none⟩ = some (.slice (some ⟨b, 0, none⟩) (n + 1) c) := (by simpa using (HD.out.pile.keep hg1.tch).box.cell 0); clear hg1)
            | (go_at_call 75; (with_reducible refine (C2.out _ T1.out).mono ?_); rintro e w2 ⟨rfl, hg2⟩; have T2 := Lib.hid (Tch.quiet T1.out hg2.tch); have c2 : w2.cell? ⟨g, 0, none⟩ = some (.slice (some ⟨b, 0, none⟩) (n + 1) c) := (by simpa using (HD.out.pile.keep T2.out).box.cell 0); clear hg2))
            have hrow2 : w2.ownsRow base 33 8 (.slice (some ⟨b, 0, none⟩) (n + 1) c) (n + 1) (l'.flatMap Ent.cells) := by have := (HD.out.pile.keep T2.out).row; rwa [hlen] at this
            refine (Swap_any base b (n + 1) c i p1 l' w2 hrow2 (by omega) (by omega)).mono ?_
            rintro e w3 ⟨rfl, hrow3, hT3⟩
            have HN3 := Lib.hid ((HD.out.keep T2.out).swap hl (by omega) (by have := HL1.out; have := HL2.out; omega) (by have := HL1.out; have := HL2.out; omega) HM.out HB2.out hrow3 hT3)
            clear hrow2 hrow3 hT3 c0 c2
            go_wp2_with fail
            go_roundg (n + 1 - p1)
            case measure => have := HL1.out; have := HL2.out; omega
            case rel => exact ⟨swapL l' i p1, p1, rfl, rfl, by omega, HN3.out⟩
      · have HM : Hid (∀ k, 0 < k → k < n → (k - 1) / 2 = i → (el l' p1).le (el l' k)) := by
          intro k k0 k1 k2
          obtain rfl : k = p1 := by omega
          exact Ent.le_refl _
        have C2 := Lib.hid (fun W ht => HLESS.out W ht p1 i (by omega) (by omega))
        cases hb2 : lessB (el l' p1) (el l' i) with
        | false =>
          rw [hb2] at C2
          have HB2 : Hid (¬ (el l' p1).lt (el l' i)) := fun h => by rw [(lessB_iff _ _).2 h] at hb2; cases hb2
          clear hb2 hp1 hp2 HLESS
          go_wp2_with ((go_at_call 75; (with_reducible refine (C2.out _ (Tch.refl None_ wr)).mono ?_); rintro e w2 ⟨rfl, hg2⟩; have T2 := Lib.hid (Tch.quiet (Tch.refl None_ wr) hg2.tch); have c2 : w2.cell? ⟨g, 0, none⟩ = some (.slice (some ⟨b, 0, none⟩) (n + 1) c) := (by simpa using (HD.out.pile.keep T2.out).box.cell 0); clear hg2))
          go_ret
          exact ⟨⟨_, rfl⟩, l', i, HD.out.keep T2.out, HD.out.inv.done (fun k k0 k1 k2 => Ent.le_trans HB2.out (HM.out k k0 k1 k2))⟩
        | true =>
          rw [hb2] at C2
          have HB2 := Lib.hid ((lessB_iff _ _).1 hb2)
          clear hb2 hp1 hp2 HLESS
          go_wp2_with ((go_at_call 75; (with_reducible refine (C2.out _ (Tch.refl None_ wr)).mono ?_); rintro e w2 ⟨rfl, hg2⟩; have T2 := Lib.hid (Tch.quiet (Tch.refl None_ wr) hg2.tch); have c2 : w2.cell? ⟨g, 0, none⟩ = some (.slice (some ⟨b, 0, none⟩) (n + 1) c) := (by simpa using (HD.out.pile.keep T2.out).box.cell 0); clear hg2))
          have hrow2 : w2.ownsRow base 33 8 (.slice (some ⟨b, 0, none⟩) (n + 1) c) (n + 1) (l'.flatMap Ent.cells) := by have := (HD.out.pile.keep T2.out).row; rwa [hlen] at this
          refine (Swap_any base b (n + 1) c i p1 l' w2 hrow2 (by omega) (by omega)).mono ?_
          rintro e w3 ⟨rfl, hrow3, hT3⟩
          have HN3 := Lib.hid ((HD.out.keep T2.out).swap hl (by omega) (by have := HL1.out; have := HL2.out; omega) (by have := HL1.out; have := HL2.out; omega) HM.out HB2.out hrow3 hT3)
          clear hrow2 hrow3 hT3 c0 c2
          go_wp2_with fail
          go_roundg (n + 1 - p1)
          case measure => have := HL1.out; have := HL2.out; omega
          case rel => exact ⟨swapL l' i p1, p1, rfl, rfl, by omega, HN3.out⟩
end Go.Proofs.Ytfdgkikgafojpaa
