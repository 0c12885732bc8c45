/-
  No statement is proved here: QueueParts: a walk of the law's code.
-/
import Derived.Test.YtfdgkikgafojpaaTwo
namespace Go.Proofs.Ytfdgkikgafojpaa
open Go.RowKit Go.Maps

set_option maxRecDepth 100000 in
set_option maxHeartbeats 4000000 in
theorem Parts_any (n c : Nat) (A : Option Addr) (ents : List Ent) (fr : Int) (w : World) (hn : ents.length = n) (hr : Reads w w.heap.size 8 A n (ents.flatMap Ent.cells)) (hok : ∀ e ∈ ents, okK e.key) (hsz : n * 64 ≤ 140737488351232) :
    Calls Try.prog 5 #[.slice A n c, .int .i64 fr] w fun e w' => e = .returned (.bool true) ∧ Tch None_ w w' := by
  have HR := Lib.hid hr
  have HOK := Lib.hid hok
  have HN := Lib.hid hn
  clear hr hok hn
  go_enter Try.func5, Try.ntmps5
  go_wp2_with fail
  refine (awake_any w).mono ?_
  rintro e w1 ⟨rfl, t1⟩
  go_wp2_with fail
  refine (QfNew w1).mono ?_
  rintro e w2 ⟨g, mb, rfl, h2⟩
  have HT1 := Lib.hid t1
  have H2 := Lib.hid h2
  clear t1 h2
  go_wp2_with fail
  go_loopg [7] n (fun gh s7 wr => ∃ (k : Nat) (v : Value) (s : List Ent), s7 = .int .i64 k ∧ n - k = gh ∧ k ≤ n ∧ Hid (QF w1 wr g mb v s))
  case atStart => exact ⟨0, _, _, rfl, rfl, by omega, H2.out⟩
  case round =>
    obtain ⟨k, v, s, rfl, rfl, hk, HQ⟩ := hrel
    by_cases hlt : k < n
    · have htw : Tch None_ w wr := HT1.out.quiet HQ.out.t
      obtain ⟨b, o, rfl, hbl, x0, x1, x2, x3, x4, x5, x6, x7⟩ := (HR.out.tch htw (Nat.le_refl _) (fun _ _ h => h)).ent HN.out k hlt
      have hmem : el ents k ∈ ents := el_mem (by rw [HN.out]; exact hlt)
      have HP := Lib.hid (QfPush w1 g mb v s (el ents k) wr HQ.out (HOK.out _ hmem))
      unfold Ent.val at HP
      clear htw hmem hbl
      go_wp2_with fail
      refine HP.out.mono ?_
      rintro x w3 (⟨rfl, hs4, v', hq3, ht3, hv3⟩ | ⟨r, hr0, rfl, hne, ht3⟩)
      · have HQ3 := Lib.hid hq3
        clear hq3 ht3 hv3
        go_wp2_with fail
        go_roundg (n - (k + 1))
        case measure => omega
        case rel => exact ⟨k + 1, _, _, by go_num, rfl, by omega, HQ3.out⟩
      · have HQ3 := Lib.hid (HQ.out.keep ht3)
        clear ht3
        go_wp2_with fail
        go_roundg (n - (k + 1))
        case measure => omega
        case rel => exact ⟨k + 1, _, _, by go_num, rfl, by omega, HQ3.out⟩
    · obtain rfl : k = n := by omega
      obtain ⟨wo, rfl⟩ : ∃ wo : World, wo = wr := ⟨_, rfl⟩
      have HCL := Lib.hid (QsClone g mb v s wo HQ.out.q)
      go_wp2_with fail
      refine HCL.out.mono ?_
      rintro x w3 ⟨g2, mb2, v2, rfl, hc3⟩
      have HTW := Lib.hid (TwoAt.start HQ.out hc3)
      clear hc3 HCL
      have HBE := Lib.hid (QsBelow g mb v s fr w3 HTW.out.q.q)
      go_wp2_with fail
      refine HBE.out.mono ?_
      rintro x w4 ⟨vo, v4, low, s4, rfl, hsp, hlo, hhi, hq4, hrow4, ht4, hv4⟩
      have HTW4 := Lib.hid (HTW.out.turn hq4 ht4 hv4)
      have HLO := Lib.hid hlo
      have HHI : Hid (∀ x ∈ s4, ¬ x.fr ≤ fr) := hhi
      have HROW := Lib.hid hrow4
      have HDIS : Hid (∀ k, vo.ownBlock = some k → ¬ QTch g2 mb2 v2 k) := fun k hk => HTW.out.out2 (hrow4.lt k hk).1
      have hll : low.length ≤ 4096 := by
        have := HQ.out.q.len
        rw [hsp] at this
        simp at this
        omega
      have hsl : s4.length ≤ 4096 := by
        have := HQ.out.q.len
        rw [hsp] at this
        simp at this
        omega
      subst hsp
      clear hlo hhi hq4 ht4 hv4 HBE HTW
      obtain ⟨Ao, co, rfl, _, _⟩ := own_form hrow4
      clear hrow4
      go_wp2_with fail
      go_loopg [10] low.length (fun gh s10 wr => ∃ (i : Nat) (v2' : Value) (dn rest : List Ent), s10 = .int .i64 i ∧ low.length - i = gh ∧ i ≤ low.length ∧ Hid (low = dn ++ rest) ∧ Hid (dn.length = i) ∧ Hid (TwoAt w1 wr wo.heap.size g mb v4 s4 g2 mb2 v2' (rest ++ s4)) ∧ Hid (v2'.ownBlock = v2.ownBlock) ∧ Hid (wr.ownsRow w3.heap.size 33 8 (.slice Ao low.length co) low.length (low.flatMap Ent.cells)))
      case atStart => exact ⟨0, v2, [], low, rfl, rfl, by omega, rfl, rfl, HTW4.out, rfl, HROW.out⟩
      case round =>
        obtain ⟨i, v2', dn, rest, rfl, rfl, hi, HSP, HDN, HTW5, HV5, HROW5⟩ := hrel
        cases rest with
        | cons e rest =>
          have hil : i < low.length := by
            have h1 := congrArg List.length HSP.out
            have h2 := HDN.out
            simp at h1
            omega
          have hel : el low i = e := by
            rw [el_get hil]
            have h1 := HSP.out
            have h2 := HDN.out
            subst h2
            simp [h1]
          have hfe : ¬ fr < e.fr := by
            have := HLO.out e (by rw [HSP.out]; simp)
            omega
          have HP := Lib.hid (TwPop2 w1 wo.heap.size g mb v4 s4 g2 mb2 v2' e (rest ++ s4) wr HTW5.out)
          unfold Ent.val at HP
          go_wp2_with fail
          refine HP.out.mono ?_
          rintro x w6 ⟨v6, rfl, htw6, ht6, hv6⟩
          have HTW6 := Lib.hid htw6
          have HV6 := Lib.hid (hv6.trans HV5.out)
          have HROW6 := Lib.hid (ht6.row HROW5.out (fun k hk => by
            have := HDIS.out k hk
            unfold QTch at this ⊢
            rwa [HV5.out]))
          clear htw6 ht6 hv6 HP
          obtain ⟨bo, cso, rfl, _⟩ := Blk.of_own HROW6.out (by omega)
          have T7 : Tch None_ w6 (w6.alloc (.cells #[.int .i64 e.fr, .int .i64 e.pe, .int .i64 e.sq, .int .i64 e.vb, .int .i64 e.a, .int .i64 e.b, .int .i64 e.c, .int .i64 e.ms] 33)) := (Tch.refl _ _).alloc _
          have hb := Blk.new w6 33 e.arr
          unfold Ent.arr at hb
          have HB := Lib.hid hb
          have HT7 := Lib.hid T7
          clear T7 hb
          go_upto_region 17 with fail
          generalize w6.alloc (.cells #[.int .i64 e.fr, .int .i64 e.pe, .int .i64 e.sq, .int .i64 e.vb, .int .i64 e.a, .int .i64 e.b, .int .i64 e.c, .int .i64 e.ms] 33) = w7 at *
          obtain ⟨x0, x1, x2, x3, x4, x5, x6, x7⟩ := own_at8 (HT7.out.row HROW6.out (fun _ _ h => h)) i hil
          rw [hel] at x0 x1 x2 x3 x4 x5 x6 x7
          clear hel
          have a0 := HB.out.cell 0
          have a1 := HB.out.cell 1
          have a2 := HB.out.cell 2
          have a3 := HB.out.cell 3
          have a4 := HB.out.cell 4
          have a5 := HB.out.cell 5
          have a6 := HB.out.cell 6
          have a7 := HB.out.cell 7
          simp at a0 a1 a2 a3 a4 a5 a6 a7
          go_quiet (fail)
          go_wp2_with fail
          go_roundg (low.length - (i + 1))
          case measure => omega
          case rel =>
            exact ⟨i + 1, v6, dn ++ [e], rest, by go_num, rfl, by omega, by rw [HSP.out]; simp [Hid], by have := HDN.out; simp [Hid, this], (HTW6.out.keep HT7.out).keep ((Tch.refl _ _).drewN _), HV6.out, ((Tch.refl None_ _).drewN _).row (HT7.out.row HROW6.out (fun _ _ h => h)) (fun _ _ h => h)⟩
        | nil =>
          have hil : i = low.length := by
            have h1 := congrArg List.length HSP.out
            have h2 := HDN.out
            simp at h1
            omega
          subst hil
          have HTW6 : Hid (TwoAt w1 wr wo.heap.size g mb v4 s4 g2 mb2 v2' s4) := HTW5.out
          have HL := Lib.hid (QsLen g2 mb2 v2' s4 wr HTW6.out.c)
          obtain ⟨wp, rfl⟩ : ∃ wp : World, wp = wr := ⟨_, rfl⟩
          go_wp2_with (go_at_call 10; (with_reducible refine HL.out.mono ?_); rintro x w6 ⟨rfl, rfl⟩)
          go_loopg [14] (s4.length + 1) (fun gh s14 wr => ∃ (j : Nat) (u u2 : Value) (rest : List Ent), s14 = .int .i64 j ∧ s4.length + 1 - j = gh ∧ j ≤ s4.length + 1 ∧ Hid (rest.length = s4.length - j) ∧ Hid (∀ x ∈ rest, ¬ x.fr ≤ fr) ∧ Hid (TwoAt w1 wr wo.heap.size g mb u rest g2 mb2 u2 rest))
          case atStart => exact ⟨0, v4, v2', s4, rfl, rfl, by omega, rfl, (fun x hx => by have := HHI.out x hx; omega), HTW6.out⟩
          case round =>
            obtain ⟨j, u, u2, rest, rfl, rfl, hj, HRL, HRH, HTW7⟩ := hrel
            by_cases hjl : j ≤ s4.length
            · cases rest with
              | cons e rest =>
                have hjl' : j < s4.length := by have := HRL.out; simp at this; omega
                have hfe : ¬ e.fr ≤ fr := HRH.out e (by simp)
                have HP := Lib.hid (TwPop w1 wo.heap.size g mb u e rest g2 mb2 u2 (e :: rest) wr HTW7.out)
                unfold Ent.val at HP
                go_wp2_with fail
                refine HP.out.mono ?_
                rintro x w8 ⟨u8, rfl, htw8, _⟩
                have htw9 := htw8.keep ((Tch.refl None_ w8).alloc (.cells #[.int .i64 e.fr, .int .i64 e.pe, .int .i64 e.sq, .int .i64 e.vb, .int .i64 e.a, .int .i64 e.b, .int .i64 e.c, .int .i64 e.ms] 33))
                have hb9 := Blk.new w8 33 e.arr
                have HO9 := Lib.hid (htw8.out2 (Nat.le_refl _))
                unfold Ent.arr at hb9
                have HB9 := Lib.hid hb9
                have HP2 := Lib.hid (TwPop2 w1 wo.heap.size g mb u8 rest g2 mb2 u2 e rest _ htw9)
                unfold Ent.val at HP2
                clear htw8 htw9 hb9 HP
                go_wp2_with fail
                refine HP2.out.mono ?_
                rintro x w10 ⟨u10, rfl, htw10, ht10, _⟩
                have HB10 := Lib.hid ((HB9.out.tch ht10 HO9.out).alloc (.cells #[.int .i64 e.fr, .int .i64 e.pe, .int .i64 e.sq, .int .i64 e.vb, .int .i64 e.a, .int .i64 e.b, .int .i64 e.c, .int .i64 e.ms] 33))
                have hb11 := Blk.new w10 33 e.arr
                unfold Ent.arr at hb11
                have HB11 := Lib.hid hb11
                have HTW11 := Lib.hid (htw10.keep ((Tch.refl None_ w10).alloc (.cells #[.int .i64 e.fr, .int .i64 e.pe, .int .i64 e.sq, .int .i64 e.vb, .int .i64 e.a, .int .i64 e.b, .int .i64 e.c, .int .i64 e.ms] 33)))
                clear htw10 ht10 hb11 HP2
                go_upto_region 25 with fail
                generalize w10.alloc (.cells #[.int .i64 e.fr, .int .i64 e.pe, .int .i64 e.sq, .int .i64 e.vb, .int .i64 e.a, .int .i64 e.b, .int .i64 e.c, .int .i64 e.ms] 33) = w11 at *
                have a0 := HB10.out.cell 0
                have a1 := HB10.out.cell 1
                have a2 := HB10.out.cell 2
                have a3 := HB10.out.cell 3
                have a4 := HB10.out.cell 4
                have a5 := HB10.out.cell 5
                have a6 := HB10.out.cell 6
                have a7 := HB10.out.cell 7
                have b0 := HB11.out.cell 0
                have b1 := HB11.out.cell 1
                have b2 := HB11.out.cell 2
                have b3 := HB11.out.cell 3
                have b4 := HB11.out.cell 4
                have b5 := HB11.out.cell 5
                have b6 := HB11.out.cell 6
                have b7 := HB11.out.cell 7
                simp at a0 a1 a2 a3 a4 a5 a6 a7 b0 b1 b2 b3 b4 b5 b6 b7
                go_wp2_with fail
                go_roundg (s4.length + 1 - (j + 1))
                case measure => omega
                case rel => exact ⟨j + 1, _, _, rest, by go_num, rfl, by omega, by have := HRL.out; simp at this; show rest.length = _; omega, fun x hx => HRH.out x (List.mem_cons_of_mem _ hx), HTW11.out⟩
              | nil =>
                have hjl' : j = s4.length := by have := HRL.out; simp at this; omega
                subst hjl'
                have HP := Lib.hid (QsPop_none g mb u wr HTW7.out.q.q)
                unfold Ent.zeroV at HP
                go_wp2_with fail
                refine HP.out.mono ?_
                rintro x w8 ⟨rfl, g8⟩
                have htw9 := (HTW7.out.keep g8.tch).keep ((Tch.refl None_ w8).alloc (.cells #[.int .i64 0, .int .i64 0, .int .i64 0, .int .i64 0, .int .i64 0, .int .i64 0, .int .i64 0, .int .i64 0] 33))
                have HB9 := Lib.hid (Blk.new w8 33 #[.int .i64 0, .int .i64 0, .int .i64 0, .int .i64 0, .int .i64 0, .int .i64 0, .int .i64 0, .int .i64 0])
                have HP2 := Lib.hid (QsPop_none g2 mb2 u2 _ htw9.c)
                unfold Ent.zeroV at HP2
                have HTW9 := Lib.hid htw9
                clear htw9 g8 HP
                go_wp2_with fail
                refine HP2.out.mono ?_
                rintro x w10 ⟨rfl, g10⟩
                have HB10 := Lib.hid ((HB9.out.keep g10.tch).alloc (.cells #[.int .i64 0, .int .i64 0, .int .i64 0, .int .i64 0, .int .i64 0, .int .i64 0, .int .i64 0, .int .i64 0] 33))
                have HB11 := Lib.hid (Blk.new w10 33 #[.int .i64 0, .int .i64 0, .int .i64 0, .int .i64 0, .int .i64 0, .int .i64 0, .int .i64 0, .int .i64 0])
                have HTW11 := Lib.hid ((HTW9.out.keep g10.tch).keep ((Tch.refl None_ w10).alloc (.cells #[.int .i64 0, .int .i64 0, .int .i64 0, .int .i64 0, .int .i64 0, .int .i64 0, .int .i64 0, .int .i64 0] 33)))
                clear g10 HP2
                go_upto_region 25 with fail
                generalize w10.alloc (.cells #[.int .i64 0, .int .i64 0, .int .i64 0, .int .i64 0, .int .i64 0, .int .i64 0, .int .i64 0, .int .i64 0] 33) = w11 at *
                have a0 := HB10.out.cell 0
                have a1 := HB10.out.cell 1
                have a2 := HB10.out.cell 2
                have a3 := HB10.out.cell 3
                have a4 := HB10.out.cell 4
                have a5 := HB10.out.cell 5
                have a6 := HB10.out.cell 6
                have a7 := HB10.out.cell 7
                have b0 := HB11.out.cell 0
                have b1 := HB11.out.cell 1
                have b2 := HB11.out.cell 2
                have b3 := HB11.out.cell 3
                have b4 := HB11.out.cell 4
                have b5 := HB11.out.cell 5
                have b6 := HB11.out.cell 6
                have b7 := HB11.out.cell 7
                simp at a0 a1 a2 a3 a4 a5 a6 a7 b0 b1 b2 b3 b4 b5 b6 b7
                go_wp2_with fail
                go_roundg 0
                case measure => omega
                case rel => exact ⟨s4.length + 1, _, _, [], by go_num, by omega, by omega, by simp [Hid], by simp [Hid], HTW11.out⟩
            · obtain rfl : j = s4.length + 1 := by omega
              go_wp2_with fail
              go_ret
              exact ⟨rfl, HT1.out.quiet HTW7.out.q.t⟩
end Go.Proofs.Ytfdgkikgafojpaa
