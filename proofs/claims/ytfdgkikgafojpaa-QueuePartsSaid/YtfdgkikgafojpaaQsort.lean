/-
  No statement is proved here: the walk of QueueSorts' first loop.
-/
import Derived.Test.YtfdgkikgafojpaaQt
namespace Go.Proofs.Ytfdgkikgafojpaa
open Go.RowKit Go.Maps

/-- What stands between two pushes: the queue, and the list of what went in. -/
structure SortAt (w1 wr : World) (g mb : Nat) (vin : Value) (inl : List Ent) : Prop where
  ex : ∃ v s, QF w1 wr g mb v s ∧ inl.Perm s ∧ (∀ j, vin.ownBlock = some j → v.ownBlock ≠ some j)
  row : wr.ownsRow w1.heap.size 33 8 vin inl.length (inl.flatMap Ent.cells)

theorem QF.out {w0 w : World} {g mb : Nat} {v : Value} {s : List Ent} (h : QF w0 w g mb v s) {base n : Nat} {e : TypeId} {size : Nat} {u : Value} {xs : List Value} (hr : w.ownsRow base e size u n xs) (hne : ∀ j, u.ownBlock = some j → v.ownBlock ≠ some j) (hgm : e ≠ 60) : ∀ j, u.ownBlock = some j → ¬ QTch g mb v j := by
  intro j hj hq
  obtain ⟨l, hqa, _⟩ := h.q.ex
  obtain ⟨ks, hm, _⟩ := hqa.map
  rcases hq with (hq | hq) | hq
  · exact own_ne_blk hr hqa.pile.box hgm j hj hq
  · exact hm.ne_own hr j hj hq
  · exact hne j hj hq
theorem QF.tch {w0 w w' : World} {g mb : Nat} {v : Value} {s : List Ent} {S : Nat → Prop} (h : QF w0 w g mb v s) (ht : Tch S w w') (h1 : ¬ S g) (h2 : ¬ S mb) (h3 : ∀ k, v.ownBlock = some k → ¬ S k) (h4 : ∀ i, i < w0.heap.size → ¬ S i) : QF w0 w' g mb v s :=
  ⟨h.q.tch ht h1 h2 h3, h.hg, h.hm, h.hv, h.t.trans ht (fun i hi hs => h4 i hi hs)⟩
theorem SortAt.push {w1 wr w3 w4 W : World} {g mb : Nat} {v v' vin v4 : Value} {sq inl : List Ent} {e : Ent} (hq3 : QF w1 w3 g mb v' (ins e sq)) (hp : inl.Perm sq) (hdis : ∀ j, vin.ownBlock = some j → v.ownBlock ≠ some j)
    (hrow : wr.ownsRow w1.heap.size 33 8 vin inl.length (inl.flatMap Ent.cells)) (hrow3 : w3.ownsRow w1.heap.size 33 8 vin inl.length (inl.flatMap Ent.cells)) (hv3 : v'.ownBlock = v.ownBlock ∨ ∃ k, v'.ownBlock = some k ∧ wr.heap.size ≤ k)
    (tW : Tch None_ w3 W) (ho : w4.ownsRow w1.heap.size 33 8 v4 (inl.length + 1) (inl.flatMap Ent.cells ++ e.cells)) (hg : W.grownBy w4 vin.ownBlock) (hat : v4.ownBlock = vin.ownBlock ∨ v4.ownBlock = some W.heap.size) : SortAt w1 w4 g mb v4 (inl ++ [e]) := by
  have hdis3 : ∀ j, vin.ownBlock = some j → v'.ownBlock ≠ some j := by
    intro j hj hj'
    rcases hv3 with h | ⟨k, hk, hl⟩
    · exact hdis j hj (h ▸ hj')
    · rw [hk] at hj'
      injection hj' with hj'
      have := (hrow.lt j hj).2
      omega
  have hne := hq3.out hrow3 hdis3 (by decide)
  have T : Tch (fun j => some j = vin.ownBlock) w3 w4 := (Tch.any tW).grown hg (fun k hk => .inl hk.symm)
  refine ⟨⟨v', _, hq3.tch T (fun h => hne g h.symm (.inl (.inl rfl))) (fun h => hne mb h.symm (.inl (.inr rfl))) (fun k hk h => hdis3 k h.symm hk) (fun i hi h => ?_), ?_, fun j hj => ?_⟩, by simpa using ho⟩
  · have := (hrow.lt i h.symm).1
    omega
  · exact (List.perm_append_comm.trans (hp.cons e)).trans (ins_perm e sq).symm
  · rcases hat with h | h
    · exact hdis3 j (h ▸ hj)
    · intro hj'
      rw [h] at hj
      injection hj with hj
      have := hq3.q.vlt j hj'
      have := tW.size
      omega

theorem QfPush (w0 : World) (g mb : Nat) (v : Value) (s : List Ent) (e : Ent) (w : World) (h : QF w0 w g mb v s) (he : okK e.key) :
    Calls Try.prog 9 #[.pointer (some ⟨g, 0, none⟩), e.val] w fun x w' =>
      (x = .returned (.int .i64 0) ∧ s.length < 4096 ∧ ∃ v', QF w0 w' g mb v' (ins e s) ∧ Tch (QTch g mb v) w w' ∧ (v'.ownBlock = v.ownBlock ∨ ∃ k, v'.ownBlock = some k ∧ w.heap.size ≤ k)) ∨
      (∃ r : Int, (r == 0) = false ∧ x = .returned (.int .i64 r) ∧ s ≠ [] ∧ Tch None_ w w') := by
  by_cases hm : e.key ∈ s.map Ent.key
  · exact (QsPush_twice g mb v s e w h.q he hm).mono fun _ _ ⟨h1, h2⟩ => .inr ⟨151, rfl, h1, fun h => by subst h; simp at hm, h2⟩
  · by_cases hf : s.length < 4096
    · exact (QfPush_ok w0 g mb v s e w h he hm hf).mono fun _ _ ⟨v', h1, h2, h3, h4⟩ => .inl ⟨h1, hf, v', h2, h3, h4⟩
    · exact (QsPush_full g mb v s e w h.q he hm (by have := h.q.len; omega)).mono fun _ _ ⟨h1, h2⟩ => .inr ⟨150, rfl, h1, fun h => by subst h; simp at hf, h2⟩

theorem Ent.ext_all {x y : Ent} (h1 : x.fr = y.fr) (h2 : x.pe = y.pe) (h3 : x.sq = y.sq) (h4 : x.vb = y.vb) (h5 : x.a = y.a) (h6 : x.b = y.b) (h7 : x.c = y.c) (h8 : x.ms = y.ms) : x = y := by
  cases x
  cases y
  simp only at h1 h2 h3 h4 h5 h6 h7 h8
  subst h1 h2 h3 h4 h5 h6 h7 h8
  rfl
theorem ite_ent {α : Type} (x y : Ent) (h : x ≠ y) (A B : α) : (if x.fr = y.fr then if x.pe = y.pe then if x.sq = y.sq then if x.vb = y.vb then if x.a = y.a then if x.b = y.b then if x.c = y.c then if x.ms = y.ms then A else B else B else B else B else B else B else B else B) = B := by
  by_cases h1 : x.fr = y.fr
  · by_cases h2 : x.pe = y.pe
    · by_cases h3 : x.sq = y.sq
      · by_cases h4 : x.vb = y.vb
        · by_cases h5 : x.a = y.a
          · by_cases h6 : x.b = y.b
            · by_cases h7 : x.c = y.c
              · by_cases h8 : x.ms = y.ms
                · exact absurd (Ent.ext_all h1 h2 h3 h4 h5 h6 h7 h8) h
                · simp [h1, h2, h3, h4, h5, h6, h7, h8]
              · simp [h1, h2, h3, h4, h5, h6, h7]
            · simp [h1, h2, h3, h4, h5, h6]
          · simp [h1, h2, h3, h4, h5]
        · simp [h1, h2, h3, h4]
      · simp [h1, h2, h3]
    · simp [h1, h2]
  · simp [h1]
/-- An entry's cells as a block's. -/
def Ent.arr (e : Ent) : Array Value := #[.int .i64 e.fr, .int .i64 e.pe, .int .i64 e.sq, .int .i64 e.vb, .int .i64 e.a, .int .i64 e.b, .int .i64 e.c, .int .i64 e.ms]
/-- What stands between two pops: kk have come; last: the one that came last. -/
structure PopAt (w1 wr : World) (g mb : Nat) (v0 : Value) (sq inl : List Ent) (vin : Value) (B kk : Nat) (v' : Value) (dn s' : List Ent) (last : Ent) : Prop where
  q : QF w1 wr g mb v' s'
  v : v'.ownBlock = v0.ownBlock
  cut : sq = dn ++ s'
  len : dn.length = kk
  up : 0 < kk → ∀ x ∈ s', last.lt x
  box : Blk wr B 33 last.arr
  row : wr.ownsRow w1.heap.size 33 8 vin inl.length (inl.flatMap Ent.cells)
theorem PopAt.keep {w1 wr w' : World} {g mb : Nat} {v0 : Value} {sq inl : List Ent} {vin : Value} {B kk : Nat} {v' : Value} {dn s' : List Ent} {last : Ent} (h : PopAt w1 wr g mb v0 sq inl vin B kk v' dn s' last) (ht : Tch None_ wr w') : PopAt w1 w' g mb v0 sq inl vin B kk v' dn s' last :=
  ⟨h.q.keep ht, h.v, h.cut, h.len, h.up, h.box.keep ht, ht.row h.row (fun _ _ h => h)⟩

set_option maxRecDepth 100000 in
set_option maxHeartbeats 4000000 in
theorem Sorts_any (n c : Nat) (A : Option Addr) (ents : List Ent) (w : World) (hn : ents.length = n) (hr : Reads w w.heap.size 8 A n (ents.flatMap Ent.cells)) (hok : ∀ e ∈ ents, okK e.key) (hsz : n * 64 ≤ 140737488351232) :
    Calls Try.prog 3 #[.slice A n c] w fun e w' => e = .returned (.bool true) ∧ Tch None_ w w' := by
  obtain ⟨i0, hi, hz0, hz1, hz2⟩ := info_parts infoEnt
  have HR := Lib.hid hr
  have HOK := Lib.hid hok
  have HN := Lib.hid hn
  clear hr hok hn
  go_enter Try.func3, Try.ntmps3
  go_wp2_with fail
  refine (awake_any w).mono ?_
  rintro e w1 ⟨rfl, t1⟩
  go_wp2_with fail
  refine (QfNew w1).mono ?_
  rintro e w2 ⟨g, mb, rfl, h2⟩
  have HT1 := Lib.hid t1
  have H2 : Hid (SortAt w1 w2 g mb (.slice none 0 0) []) := ⟨⟨_, _, h2, List.Perm.refl _, by simp [Value.ownBlock]⟩, World.ownsRow_nil _ _ _ _⟩
  clear t1 h2
  go_wp2_with fail
  go_loopg [5, 6] n (fun gh s5 s6 wr => ∃ (k : Nat) (vin : Value) (inl : List Ent), vin = s5 ∧ s6 = .int .i64 k ∧ n - k = gh ∧ k ≤ n ∧ Hid (SortAt w1 wr g mb vin inl) ∧ Hid (0 < k → inl ≠ []))
  case atStart => exact ⟨0, _, [], rfl, rfl, rfl, by omega, H2.out, fun h => absurd h (by omega)⟩
  case round =>
    obtain ⟨k, vin, inl, rfl, rfl, rfl, hk, HS, HL⟩ := hrel
    by_cases hlt : k < n
    · obtain ⟨v, sq, hq, hpm, hdis⟩ := HS.out.ex
      have htw : Tch None_ w wr := HT1.out.quiet hq.t
      obtain ⟨b, o, rfl, hbl, x0, x1, x2, x3, x4, x5, x6, x7⟩ := (HR.out.tch htw (Nat.le_refl _) (fun _ _ h => h)).ent HN.out k hlt
      have hmem : el ents k ∈ ents := el_mem (by rw [HN.out]; exact hlt)
      have HP := Lib.hid (QfPush w1 g mb v sq (el ents k) wr hq (HOK.out _ hmem))
      have hrow := HS.out.row
      have hqt := hq.out hrow hdis (by decide)
      have HTW := Lib.hid htw
      have HPM := Lib.hid hpm
      have HDIS := Lib.hid hdis
      have HQT := Lib.hid hqt
      have HVLT := Lib.hid hq.q.vlt
      have hw1 := hq.t.size
      have hww1 := HT1.out.size
      have hA8 : ∀ w', Tch None_ w w' → At8 w' b (o + k * 8) (el ents k) := fun w' h => by
        obtain ⟨b', o', hbo, _, h8⟩ := (HR.out.tch h (Nat.le_refl _) (fun _ _ h => h)).ent HN.out k hlt
        injection hbo with hbo
        injection hbo with e1 e2
        subst e1 e2
        exact h8
      have HA8 := Lib.hid hA8
      unfold Ent.val at HP
      clear hq hpm hdis hrow hqt htw hmem hA8 hbl
      go_wp2_with fail
      refine HP.out.mono ?_
      rintro x w3 (⟨rfl, hs4, v', hq3, ht3, hv3⟩ | ⟨r, hr0, rfl, hne, ht3⟩)
      · have htw3 : Tch None_ w w3 := HT1.out.quiet hq3.t
        obtain ⟨y0, y1, y2, y3, y4, y5, y6, y7⟩ := HA8.out w3 htw3
        have hrow3 := ht3.row HS.out.row HQT.out
        have hil : inl.length < 4096 := by rw [HPM.out.length_eq]; exact hs4
        have hx := hrow3.alloc (.cells #[.int .i64 (el ents k).fr, .int .i64 (el ents k).pe, .int .i64 (el ents k).sq, .int .i64 (el ents k).vb, .int .i64 (el ents k).a, .int .i64 (el ents k).b, .int .i64 (el ents k).c, .int .i64 (el ents k).ms] 33)
        have h63 : inl.length + 1 ≤ maxLen := by simp only [maxLen]; omega
        have h64 : (inl.length + 1) * 64 ≤ 140737488355328 := by omega
        have hsz3 : w1.heap.size ≤ w3.heap.size := hq3.t.size
        have HQ3 := Lib.hid hq3
        have HV3 := Lib.hid hv3
        have HT3 := Lib.hid ht3
        have HR3 := Lib.hid hrow3
        have HSP : Hid (∀ v4 w4, w4.ownsRow w1.heap.size 33 8 v4 (inl.length + 1) (inl.flatMap Ent.cells ++ (el ents k).cells) → (w3.alloc (.cells #[.int .i64 (el ents k).fr, .int .i64 (el ents k).pe, .int .i64 (el ents k).sq, .int .i64 (el ents k).vb, .int .i64 (el ents k).a, .int .i64 (el ents k).b, .int .i64 (el ents k).c, .int .i64 (el ents k).ms] 33)).grownBy w4 vin.ownBlock →
            (v4.ownBlock = vin.ownBlock ∨ v4.ownBlock = some (w3.alloc (.cells #[.int .i64 (el ents k).fr, .int .i64 (el ents k).pe, .int .i64 (el ents k).sq, .int .i64 (el ents k).vb, .int .i64 (el ents k).a, .int .i64 (el ents k).b, .int .i64 (el ents k).c, .int .i64 (el ents k).ms] 33)).heap.size) → SortAt w1 w4 g mb v4 (inl ++ [el ents k])) :=
          fun v4 w4 a1 a2 a3 => SortAt.push hq3 HPM.out HDIS.out HS.out.row hrow3 hv3 ((Tch.refl None_ w3).alloc _) a1 a2 a3
        clear x0 x1 x2 x3 x4 x5 x6 x7 hrow3 hq3 hv3 ht3 htw3
        obtain ⟨Ai, ci, rfl, _, _⟩ := own_form HR3.out
        go_wp2_with (at_builtin; refine wpList_append_any _ rfl (.tmp 39) (.tmp 44) 22 rfl w1.heap.size 33 i0 _ 8 64 Try.underlying22 hi hz0 hz1 hz2 rfl (by omega) _ _ _ rfl hx (w3.heap.size + 1) (some ⟨w3.heap.size, 0, none⟩) 1 1 (el ents k).cells rfl (one_ent w3 (el ents k)) (by simp [Ent.cells, Value.oneCell']) h63 h64 (by simp; omega) ?_; intro v4 w4 hown4 hg4 hat4; have HO4 := Lib.hid hown4; have HG4 := Lib.hid hg4; have HAT4 := Lib.hid hat4; clear hx hown4 hg4 hat4)
        go_roundg (n - (k + 1))
        case measure => omega
        case rel =>
          obtain ⟨v, sq, hq, hpm, hdis⟩ := HS.out.ex
          exact ⟨k + 1, _, inl ++ [el ents k], rfl, by go_num, rfl, by omega, HSP.out _ _ HO4.out HG4.out HAT4.out, fun _ h => by simp at h⟩
      · have hil : True := trivial
        go_wp2_with fail
        go_roundg (n - (k + 1))
        case measure => omega
        case rel =>
          obtain ⟨v, sq, hq, hpm, hdis⟩ := HS.out.ex
          exact ⟨k + 1, _, inl, rfl, by go_num, rfl, by omega, ⟨⟨v, sq, hq.keep ht3, hpm, hdis⟩, ht3.row HS.out.row (fun _ _ h => h)⟩, fun _ h => by subst h; exact absurd (List.nil_perm.1 HPM.out) hne⟩
    · obtain rfl : k = n := by omega
      obtain ⟨v, sq, hq, hpm, hdis⟩ := HS.out.ex
      have hlen : sq.length = inl.length := hpm.length_eq.symm
      have hL := QsLen g mb v sq wr hq.q
      rw [hlen] at hL
      have HLEN := Lib.hid hL
      have hil : inl.length ≤ 4096 := by rw [← hlen]; exact hq.q.len
      have hrow := HS.out.row
      obtain ⟨Ai, ci, rfl, _, _⟩ := own_form hrow
      have HQ := Lib.hid hq
      have HPM := Lib.hid hpm
      have HDIS := Lib.hid hdis
      have HROW := Lib.hid hrow
      have HSL := Lib.hid hlen
      have hk0 : k = 0 ∨ (0 < k ∧ 0 < inl.length) := by
        rcases Nat.eq_zero_or_pos k with h | h
        · exact .inl h
        · exact .inr ⟨h, List.length_pos_iff.2 (HL.out h)⟩
      have hgl := hq.q.glt
      have hml := hq.q.mlt
      have HVL := Lib.hid hq.q.vlt
      clear hq hpm hdis hlen hL hrow hk
      rcases hk0 with rfl | ⟨hk1, hi0⟩
      all_goals go_wp2_with (go_at_call 10; (with_reducible refine HLEN.out.mono ?_); rintro x w3 ⟨rfl, rfl⟩)
      all_goals
        obtain ⟨wo, rfl⟩ : ∃ wo : World, wo = wr := ⟨_, rfl⟩
        have T1 : Tch None_ wo (wo.alloc (.cells #[.int .i64 0, .int .i64 0, .int .i64 0, .int .i64 0, .int .i64 0, .int .i64 0, .int .i64 0, .int .i64 0] 33)) := (Tch.refl _ _).alloc _
        have HPA : Hid (PopAt w1 (wo.alloc (.cells #[.int .i64 0, .int .i64 0, .int .i64 0, .int .i64 0, .int .i64 0, .int .i64 0, .int .i64 0, .int .i64 0] 33)) g mb v sq inl (.slice Ai inl.length ci) wo.heap.size 0 v [] sq default) :=
          ⟨HQ.out.keep T1, rfl, rfl, rfl, fun h => absurd h (by omega), Blk.new wo _ _, T1.row HROW.out (fun _ _ h => h)⟩
        clear T1
        go_loopg [9, 11] inl.length (fun gh s9 s11 wr => ∃ (kk : Nat) (lv : Int) (v' : Value) (dn s' : List Ent) (last : Ent), s9 = .int .i64 lv ∧ Hid (lv = inl.length - kk) ∧ 0 ≤ lv ∧ lv ≤ 4096 ∧ s11 = .int .i64 kk ∧ inl.length - kk = gh ∧ kk ≤ inl.length ∧ Hid (PopAt w1 wr g mb v sq inl (.slice Ai inl.length ci) wo.heap.size kk v' dn s' last))
        case atStart => exact ⟨0, _, v, [], sq, default, rfl, by simp [Hid], by omega, by omega, rfl, rfl, by omega, HPA.out⟩
        case round =>
          clear HPA
          obtain ⟨kk, lv, v', dn, s', last, rfl, hlv, hlv0, hlv1, rfl, rfl, hkk, HPA⟩ := hrel
          cases s' with
          | nil =>
            have hkl : kk = inl.length := by
              have h1 := congrArg List.length HPA.out.cut
              have h2 := HPA.out.len
              have h3 := HSL.out
              simp at h1
              omega
            have hlz : lv = 0 := by have := hlv.out; omega
            subst hlz
            have HPN := Lib.hid (QsPop_none g mb v' wr HPA.out.q.q)
            unfold Ent.zeroV at HPN
            go_wp2_with (go_at_call 11; (with_reducible refine HPN.out.mono ?_); rintro x w4 ⟨rfl, hg4⟩)
            go_ret
            exact ⟨rfl, (HT1.out.quiet (HPA.out.q.keep hg4.tch).t).alloc _⟩
          | cons e s' =>
            have hkl : kk < inl.length := by
              have h1 := congrArg List.length HPA.out.cut
              have h2 := HPA.out.len
              have h3 := HSL.out
              simp at h1
              omega
            have hvl' : ∀ k, v'.ownBlock = some k → k < wo.heap.size := fun k hk => HVL.out k (HPA.out.v ▸ hk)
            have hnoB : ¬ QTch g mb v' wo.heap.size := fun h => by
              rcases h with (h | h) | h
              · omega
              · omega
              · have := hvl' _ h; omega
            have hnoR := HPA.out.q.out HPA.out.row (fun j hj h => HDIS.out j hj (HPA.out.v ▸ h)) (by decide)
            have HP := Lib.hid (QsPop_some g mb v' e s' wr HPA.out.q.q)
            have HNB := Lib.hid hnoB
            have HNR := Lib.hid hnoR
            clear hnoB hnoR hvl'
            unfold Ent.val at HP
            go_wp2_with fail
            refine HP.out.mono ?_
            rintro x w4 ⟨v5, rfl, hq4, ht4, hv4⟩
            have HQ4 := Lib.hid (HPA.out.q.turn hq4 ht4 (.inl hv4))
            have HB4 := Lib.hid (HPA.out.box.tch ht4 HNB.out)
            have HR4 := Lib.hid (ht4.row HPA.out.row HNR.out)
            have HV5 := Lib.hid (hv4.trans HPA.out.v)
            have hs4 := ht4.size
            have hsx := HPA.out.box.lt
            clear hq4 ht4 hv4 HP
            have hlv2 : 1 ≤ lv := by have := hlv.out; omega
            have hk01 : kk ≤ 0 ∨ 0 < kk := by omega
            have hb12 := Blk.new w4 33 e.arr
            unfold Ent.arr at hb12
            have hb10 := HB4.out.alloc (.cells #[.int .i64 e.fr, .int .i64 e.pe, .int .i64 e.sq, .int .i64 e.vb, .int .i64 e.a, .int .i64 e.b, .int .i64 e.c, .int .i64 e.ms] 33)
            have T45 : Tch None_ w4 (w4.alloc (.cells #[.int .i64 e.fr, .int .i64 e.pe, .int .i64 e.sq, .int .i64 e.vb, .int .i64 e.a, .int .i64 e.b, .int .i64 e.c, .int .i64 e.ms] 33)) := (Tch.refl _ _).alloc _
            rcases hk01 with hk0 | hk0
            case' inl =>
              have HB12 := Lib.hid hb12
              have HB10 := Lib.hid hb10
              have HT45 := Lib.hid T45
              clear hb12 hb10 T45
              go_upto_region 25 with fail
              generalize w4.alloc (.cells #[.int .i64 e.fr, .int .i64 e.pe, .int .i64 e.sq, .int .i64 e.vb, .int .i64 e.a, .int .i64 e.b, .int .i64 e.c, .int .i64 e.ms] 33) = w5 at *
            case' inr =>
              have hlt0 : last.ord e < 0 := (Ent.ord_lt _ _).2 (HPA.out.up hk0 e (by simp))
              have q0 := hb10.cell 0
              have q1 := hb10.cell 1
              have q2 := hb10.cell 2
              have q3 := hb10.cell 3
              have q4 := hb10.cell 4
              have q5 := hb10.cell 5
              have q6 := hb10.cell 6
              have q7 := hb10.cell 7
              simp [Ent.arr] at q0 q1 q2 q3 q4 q5 q6 q7
              have HO := Lib.hid (Order_any last e)
              unfold Ent.val at HO
              have HB12 := Lib.hid hb12
              have HB10 := Lib.hid hb10
              have HT45 := Lib.hid T45
              clear hb12 hb10 T45
              go_upto_region 25 with (go_at_call 12; (with_reducible refine (HO.out _).mono ?_); rintro x w5 ⟨rfl, hg5⟩)
              replace HB12 := Lib.hid (HB12.out.keep hg5.tch)
              replace HB10 := Lib.hid (HB10.out.keep hg5.tch)
              replace HT45 := Lib.hid (HT45.out.then hg5.tch)
              clear q0 q1 q2 q3 q4 q5 q6 q7 hg5 hlt0
            all_goals
              have a0 := HB12.out.cell 0
              have a1 := HB12.out.cell 1
              have a2 := HB12.out.cell 2
              have a3 := HB12.out.cell 3
              have a4 := HB12.out.cell 4
              have a5 := HB12.out.cell 5
              have a6 := HB12.out.cell 6
              have a7 := HB12.out.cell 7
              have q0 := HB10.out.cell 0
              have q1 := HB10.out.cell 1
              have q2 := HB10.out.cell 2
              have q3 := HB10.out.cell 3
              have q4 := HB10.out.cell 4
              have q5 := HB10.out.cell 5
              have q6 := HB10.out.cell 6
              have q7 := HB10.out.cell 7
              have z0 := HB10.out.frozen 0
              have z1 := HB10.out.frozen 1
              have z2 := HB10.out.frozen 2
              have z3 := HB10.out.frozen 3
              have z4 := HB10.out.frozen 4
              have z5 := HB10.out.frozen 5
              have z6 := HB10.out.frozen 6
              have z7 := HB10.out.frozen 7
              have lq := HB10.out.lt
              simp at a0 a1 a2 a3 a4 a5 a6 a7
              simp [Ent.arr] at q0 q1 q2 q3 q4 q5 q6 q7
              have T56 : Tch (fun k => k = wo.heap.size) w5 ((((((((w5.setCell ⟨wo.heap.size, 0, none⟩ (.int .i64 e.fr)).setCell ⟨wo.heap.size, 1, none⟩ (.int .i64 e.pe)).setCell ⟨wo.heap.size, 2, none⟩ (.int .i64 e.sq)).setCell ⟨wo.heap.size, 3, none⟩ (.int .i64 e.vb)).setCell ⟨wo.heap.size, 4, none⟩ (.int .i64 e.a)).setCell ⟨wo.heap.size, 5, none⟩ (.int .i64 e.b)).setCell ⟨wo.heap.size, 6, none⟩ (.int .i64 e.c)).setCell ⟨wo.heap.size, 7, none⟩ (.int .i64 e.ms)) := (((((((((Tch.refl (fun k => k = wo.heap.size) w5).setCell (p := ⟨wo.heap.size, 0, none⟩) (.inl rfl) (.int .i64 e.fr)).setCell (p := ⟨wo.heap.size, 1, none⟩) (.inl rfl) (.int .i64 e.pe)).setCell (p := ⟨wo.heap.size, 2, none⟩) (.inl rfl) (.int .i64 e.sq)).setCell (p := ⟨wo.heap.size, 3, none⟩) (.inl rfl) (.int .i64 e.vb)).setCell (p := ⟨wo.heap.size, 4, none⟩) (.inl rfl) (.int .i64 e.a)).setCell (p := ⟨wo.heap.size, 5, none⟩) (.inl rfl) (.int .i64 e.b)).setCell (p := ⟨wo.heap.size, 6, none⟩) (.inl rfl) (.int .i64 e.c)).setCell (p := ⟨wo.heap.size, 7, none⟩) (.inl rfl) (.int .i64 e.ms))
              have HB6 : Hid (Blk ((((((((w5.setCell ⟨wo.heap.size, 0, none⟩ (.int .i64 e.fr)).setCell ⟨wo.heap.size, 1, none⟩ (.int .i64 e.pe)).setCell ⟨wo.heap.size, 2, none⟩ (.int .i64 e.sq)).setCell ⟨wo.heap.size, 3, none⟩ (.int .i64 e.vb)).setCell ⟨wo.heap.size, 4, none⟩ (.int .i64 e.a)).setCell ⟨wo.heap.size, 5, none⟩ (.int .i64 e.b)).setCell ⟨wo.heap.size, 6, none⟩ (.int .i64 e.c)).setCell ⟨wo.heap.size, 7, none⟩ (.int .i64 e.ms)) wo.heap.size 33 e.arr) := by simpa [Ent.arr, Hid] using ((((((((HB10.out.set_ 0 (.int .i64 e.fr)).set_ 1 (.int .i64 e.pe)).set_ 2 (.int .i64 e.sq)).set_ 3 (.int .i64 e.vb)).set_ 4 (.int .i64 e.a)).set_ 5 (.int .i64 e.b)).set_ 6 (.int .i64 e.c)).set_ 7 (.int .i64 e.ms))
              have hne12 : w4.heap.size ≠ wo.heap.size := by omega
              have HE6 := Lib.hid (HB12.out.tch T56 hne12)
              have hno6 : ∀ k, v5.ownBlock = some k → ¬ k = wo.heap.size := fun k hk h => by have := HVL.out k (HV5.out ▸ hk); omega
              have HQ6 := Lib.hid (((HQ4.out.keep HT45.out)).tch T56 (by omega) (by omega) hno6 (fun i hi h => by have := HQ.out.t.size; omega))
              have hnoR6 : ∀ k, (Value.slice Ai inl.length ci).ownBlock = some k → ¬ k = wo.heap.size := fun k hk h => by have := (HROW.out.lt k hk).2; omega
              have HR6 := Lib.hid (T56.row (HT45.out.row HR4.out (fun _ _ h => h)) hnoR6)
              clear T56 hno6 hnoR6
              go_wp2_with fail
              generalize ((((((((w5.setCell ⟨wo.heap.size, 0, none⟩ (.int .i64 e.fr)).setCell ⟨wo.heap.size, 1, none⟩ (.int .i64 e.pe)).setCell ⟨wo.heap.size, 2, none⟩ (.int .i64 e.sq)).setCell ⟨wo.heap.size, 3, none⟩ (.int .i64 e.vb)).setCell ⟨wo.heap.size, 4, none⟩ (.int .i64 e.a)).setCell ⟨wo.heap.size, 5, none⟩ (.int .i64 e.b)).setCell ⟨wo.heap.size, 6, none⟩ (.int .i64 e.c)).setCell ⟨wo.heap.size, 7, none⟩ (.int .i64 e.ms)) = w6 at *
              clear a0 a1 a2 a3 a4 a5 a6 a7 q0 q1 q2 q3 q4 q5 q6 q7 z0 z1 z2 z3 z4 z5 z6 z7 lq
              have HNX : Hid (PopAt w1 w6 g mb v sq inl (.slice Ai inl.length ci) wo.heap.size (kk + 1) v5 (dn ++ [e]) s' e) :=
                ⟨HQ6.out, HV5.out, by rw [HPA.out.cut]; simp, by rw [List.length_append, HPA.out.len]; rfl, fun _ x hx => by
                  have h := HQ.out.q.up
                  rw [HPA.out.cut] at h
                  exact (List.pairwise_cons.1 (List.pairwise_append.1 h).2.1).1 x hx, HB6.out, HR6.out⟩
              have HFIND : Hid (∃ j, j < inl.length ∧ el inl j = e) := by
                have hm : e ∈ inl := HPM.out.mem_iff.2 (by rw [HPA.out.cut]; simp)
                obtain ⟨j, hj, h⟩ := List.getElem_of_mem hm
                exact ⟨j, hj, by rw [el_get hj, h]⟩
              obtain ⟨bi, csi, hAi, _⟩ := Blk.of_own HR6.out (by omega)
              subst hAi
              clear HB4 HR4 HQ4 HB12 HB10 HT45 HQ6 HB6 HR6 HNB HNR hs4 hsx hk0 hne12
              go_loopg [9, 14] inl.length (fun gh t9 t14 wy => ∃ i : Nat, t9 = .int .i64 lv ∧ t14 = .int .i64 i ∧ inl.length - i = gh ∧ i ≤ inl.length ∧ Hid (∀ j, j < i → el inl j ≠ e) ∧ Hid (Tch None_ w6 wy))
              case atStart => exact ⟨0, rfl, rfl, rfl, by omega, fun j h => absurd h (by omega), Tch.refl _ _⟩
              case round =>
                obtain ⟨i, rfl, rfl, rfl, hi, HNO, HT6⟩ := hrel
                have hil2 : i < inl.length := by
                  obtain ⟨j, hj, h⟩ := HFIND.out
                  have : ¬ j < i := fun h' => HNO.out j h' h
                  omega
                have hnx := HNX.out.keep HT6.out
                obtain ⟨x0, x1, x2, x3, x4, x5, x6, x7⟩ := own_at8 hnx.row i hil2
                have hb12 := HE6.out.keep HT6.out
                have a0 := hb12.cell 0
                have a1 := hb12.cell 1
                have a2 := hb12.cell 2
                have a3 := hb12.cell 3
                have a4 := hb12.cell 4
                have a5 := hb12.cell 5
                have a6 := hb12.cell 6
                have a7 := hb12.cell 7
                simp at a0 a1 a2 a3 a4 a5 a6 a7
                clear hnx hb12
                by_cases he : el inl i = e
                · rw [he] at x0 x1 x2 x3 x4 x5 x6 x7
                  clear he
                  go_wp2_with fail
                  go_quiet (fail)
                  go_wp2_with fail
                  go_roundg (inl.length - (kk + 1))
                  case measure => omega
                  case rel => exact ⟨kk + 1, lv - 1, v5, dn ++ [e], s', e, rfl, by have := hlv.out; show lv - 1 = _; omega, by omega, by omega, by go_num, rfl, by omega, (HNX.out.keep HT6.out).keep ((Tch.refl _ _).drewN _)⟩
                · have hif := fun (α : Type) (A B : α) => ite_ent (el inl i) e he A B
                  have HE := Lib.hid he
                  clear he
                  go_wp2_with fail
                  go_quiet (fail)
                  clear hif
                  go_wp2_with fail
                  go_roundg (inl.length - (i + 1))
                  case measure => omega
                  case rel => exact ⟨i + 1, rfl, by go_num, rfl, by omega, fun j hj => by
                    rcases Nat.lt_succ_iff_lt_or_eq.1 hj with h | rfl
                    · exact HNO.out j h
                    · exact HE.out, HT6.out.quiet ((Tch.refl _ _).drewN _)⟩
end Go.Proofs.Ytfdgkikgafojpaa
