/-
  No statement is proved here: QueueFills: a walk of the law's code.
-/
import Derived.Test.YtfdgkikgafojpaaQsort
import Derived.Test.YtfdgkikgafojpaaFillm
import Derived.IntWalk
namespace Go.Proofs.Ytfdgkikgafojpaa
open Go.RowKit Go.Maps

def pickI (c n : Int) : Int := (if c < 0 then -(c + 1) else c) % n
theorem pickI_bd (c n : Int) (h : 0 < n) : 0 ≤ pickI c n ∧ pickI c n < n := by unfold pickI; exact ⟨Int.emod_nonneg _ (by omega), Int.emod_lt_of_pos _ h⟩
set_option maxHeartbeats 400000 in
theorem pick_any (c n : Int) (w : World) (h1 : -9223372036854775808 ≤ c) (h2 : c ≤ 9223372036854775807) (h3 : 0 < n) (h4 : n ≤ 9223372036854775807) :
    Calls Try.prog 13 #[.int .i64 c, .int .i64 n] w fun e w' => e = .returned (.int .i64 (pickI c n)) ∧ w = w' := by
  by_cases hc : c < 0
  · have H : Hid (pickI c n = (-(c + 1)) % n) := by unfold pickI; rw [if_pos hc]; exact rfl
    go_enter Try.func13, Try.ntmps13
    go_wp2_with fail
    go_ret
    exact ⟨ret_int (by rw [H.out, ← Int.neg_tmod, Int.tmod_eq_emod_of_nonneg (by omega)]), rfl⟩
  · have H : Hid (pickI c n = c % n) := by unfold pickI; rw [if_neg hc]; exact rfl
    go_enter Try.func13, Try.ntmps13
    go_wp2_with fail
    go_ret
    exact ⟨ret_int (by rw [H.out]), rfl⟩

/-- What stands between two pushes: the queue, the reference's queue (block yb, its list's value vy, which reads as ys). -/
structure FillAt (w1 wr : World) (g mb yb : Nat) (v vy : Value) (s ys : List Ent) : Prop where
  q : QF w1 wr g mb v s
  y : Blk wr yb 41 #[vy]
  row : wr.ownsRow w1.heap.size 33 8 vy ys.length (ys.flatMap Ent.cells)
  dis : ∀ j, vy.ownBlock = some j → v.ownBlock ≠ some j
  yb1 : w1.heap.size ≤ yb
theorem FillAt.keep {w1 wr w' : World} {g mb yb : Nat} {v vy : Value} {s ys : List Ent} (h : FillAt w1 wr g mb yb v vy s ys) (ht : Tch None_ wr w') : FillAt w1 w' g mb yb v vy s ys :=
  ⟨h.q.keep ht, h.y.keep ht, ht.row h.row (fun _ _ h => h), h.dis, h.yb1⟩
theorem FillAt.noq {w1 wr : World} {g mb yb : Nat} {v vy : Value} {s ys : List Ent} (h : FillAt w1 wr g mb yb v vy s ys) : ¬ QTch g mb v yb := by
  obtain ⟨l, hqa, _⟩ := h.q.q.ex
  obtain ⟨ks, hm, _⟩ := hqa.map
  intro hq
  rcases hq with (hq | hq) | hq
  · exact (hqa.pile.box.ne_ h.y (by decide)) hq.symm
  · exact hm.ne_blk h.y hq
  · exact own_ne_blk hqa.pile.row h.y (by decide) _ hq rfl
/-- A call on the queue. -/
theorem FillAt.turn {w1 wr w' : World} {g mb yb : Nat} {v v' vy : Value} {s s' ys : List Ent} (h : FillAt w1 wr g mb yb v vy s ys) (hq : QF w1 w' g mb v' s') (ht : Tch (QTch g mb v) wr w') (hv : v'.ownBlock = v.ownBlock ∨ ∃ k, v'.ownBlock = some k ∧ wr.heap.size ≤ k) : FillAt w1 w' g mb yb v' vy s' ys := by
  have hno := h.q.out h.row h.dis (by decide)
  refine ⟨hq, h.y.tch ht h.noq, ht.row h.row hno, fun j hj => ?_, h.yb1⟩
  rcases hv with hv | ⟨k, hk, hl⟩
  · rw [hv]; exact h.dis j hj
  · rw [hk]
    intro e
    injection e with e
    have := (h.row.lt j hj).2
    omega
/-- An append to the reference's list. -/
theorem FillAt.push {w1 wr W w3 : World} {g mb yb gg cap n : Nat} {v vy : Value} {s ys : List Ent} {e : Ent} (h : FillAt w1 wr g mb yb v vy s ys) (hn : ys.length = n) (tW : Tch None_ wr W) (ho : w3.ownsRow w1.heap.size 33 8 (.slice (some ⟨gg, 0, none⟩) (n + 1) cap) (n + 1) (ys.flatMap Ent.cells ++ e.cells)) (hg : W.grownBy w3 vy.ownBlock)
    (hat : vy.ownBlock = some gg ∨ W.heap.size ≤ gg) : FillAt w1 (w3.setCell ⟨yb, 0, none⟩ (.slice (some ⟨gg, 0, none⟩) (n + 1) cap)) g mb yb v (.slice (some ⟨gg, 0, none⟩) (n + 1) cap) s (ys ++ [e]) := by
  have hno := h.q.out h.row h.dis (by decide)
  have hgy : gg ≠ yb := by
    rcases hat with hat | hat
    · exact own_ne_blk h.row h.y (by decide) _ hat
    · have := h.y.lt; have := tW.size; omega
  have T : Tch (fun j => some j = vy.ownBlock) wr w3 := (Tch.any tW).grown hg (fun k hk => .inl hk.symm)
  have T2 : Tch (fun j => j = yb) w3 (w3.setCell ⟨yb, 0, none⟩ (.slice (some ⟨gg, 0, none⟩) (n + 1) cap)) := (Tch.refl (fun j => j = yb) w3).setCell (p := ⟨yb, 0, none⟩) (.inl rfl) _
  have hny : ¬ some yb = vy.ownBlock := fun e => own_ne_blk h.row h.y (by decide) yb e.symm rfl
  have hq3 := h.q.tch T (fun e => hno g e.symm (.inl (.inl rfl))) (fun e => hno mb e.symm (.inl (.inr rfl))) (fun k hk e => h.dis k e.symm hk) (fun i hi e => by have := (h.row.lt i e.symm).1; omega)
  have hnq := h.noq
  refine ⟨hq3.tch T2 (fun e => hnq (.inl (.inl e.symm))) (fun e => hnq (.inl (.inr e.symm))) (fun k hk e => hnq (.inr (by rw [← e]; exact hk))) (fun i hi e => by have := h.yb1; omega), (h.y.tch T hny).set_ 0 _, ?_, fun j hj => ?_, h.yb1⟩
  · have := T2.row ho (fun k hk e => hgy (by simpa [Value.ownBlock, e] using hk))
    simpa [hn] using this
  · simp only [Value.ownBlock, Option.some.injEq] at hj
    subst hj
    rcases hat with hat | hat
    · exact h.dis _ hat
    · intro e'
      have := h.q.q.vlt _ e'
      have := tW.size
      omega

/-- Was one of the first i of the key? -/
def TwAt (p i : Nat) (e : Ent) (tw : Bool) : Prop := tw = true ↔ ∃ j, j < i ∧ (fillE p j).key = e.key
theorem TwAt.start (p : Nat) (e : Ent) : TwAt p 0 e false := ⟨fun h => (by cases h), fun ⟨j, h, _⟩ => absurd h (by omega)⟩
theorem TwAt.stay {p i : Nat} {e : Ent} (h : TwAt p i e true) : TwAt p (i + 1) e true := ⟨fun _ => by
  obtain ⟨j, hj, hk⟩ := h.1 rfl
  exact ⟨j, by omega, hk⟩, fun _ => rfl⟩
theorem TwAt.hit {p i : Nat} {e : Ent} (h : (fillE p i).key = e.key) : TwAt p (i + 1) e true := ⟨fun _ => ⟨i, by omega, h⟩, fun _ => rfl⟩
theorem TwAt.miss {p i : Nat} {e : Ent} (h : TwAt p i e false) (hn : (fillE p i).key ≠ e.key) : TwAt p (i + 1) e false := ⟨fun h => (by cases h), fun ⟨j, hj, hk⟩ => by
  rcases Nat.lt_succ_iff_lt_or_eq.1 hj with h' | rfl
  · exact absurd (h.2 ⟨j, h', hk⟩) (by simp)
  · exact absurd hk hn⟩

def fill9 (p : Nat) : Ent := ⟨2, (p : Int) + 9, 5, 0, 0, 0, 0, 0⟩
theorem fill9_eq (p : Nat) : fillE p 9 = fill9 p := rfl
def fill0 (p : Nat) : Ent := ⟨0, p, 5, 0, 0, 0, 0, 0⟩
theorem fill0_eq (p : Nat) : fillE p 0 = fill0 p := by simp [fillE, fill0]
theorem TwAt.mem {p m : Nat} {e : Ent} {tw : Bool} {s : List Ent} (h : TwAt p m e tw) (hp : s.Perm (fillL p m)) : tw = true ↔ e.key ∈ s.map Ent.key := by
  unfold TwAt at h
  rw [h, (hp.map Ent.key).mem_iff]
  constructor
  · rintro ⟨j, hj, hk⟩
    exact List.mem_map.2 ⟨fillE p j, List.mem_map.2 ⟨j, by simpa using hj, rfl⟩, hk⟩
  · intro h'
    obtain ⟨x, hx, hk⟩ := List.mem_map.1 h'
    obtain ⟨j, hj, rfl⟩ := fillL_mem hx
    exact ⟨j, hj, hk⟩
/-- The push of the other one. -/
theorem pushMore (w1 wr : World) (g mb p : Nat) (v : Value) (s : List Ent) (e : Ent) (tw : Bool) (hq : QF w1 wr g mb v s) (he : okK e.key) (hp : s.Perm (fillL p 4096)) (ht : TwAt p 4096 e tw) :
    Calls Try.prog 9 #[.pointer (some ⟨g, 0, none⟩), e.val] wr fun x w' => x = .returned (.int .i64 (if tw then 151 else 150)) ∧ Tch None_ wr w' := by
  have hm := ht.mem hp
  cases tw with
  | true => exact QsPush_twice g mb v s e wr hq.q he (hm.1 rfl)
  | false => exact QsPush_full g mb v s e wr hq.q he (fun h => by have := hm.2 h; cases this) (by rw [hp.length_eq]; simp)

set_option maxRecDepth 100000 in
set_option maxHeartbeats 4000000 in
theorem Fills_any (first : Int) (e : Ent) (w : World) (h1 : -9223372036854775808 ≤ first) (h2 : first ≤ 9223372036854775807) (he : okK e.key) :
    Calls Try.prog 4 #[.int .i64 first, e.val] w fun x w' => x = .returned (.bool true) ∧ Tch None_ w w' := by
  obtain ⟨i0, hi0, hz0, hz1, hz2⟩ := info_parts infoEnt
  obtain ⟨p, hp⟩ : ∃ p : Nat, pickI first 1000 = p := Int.eq_ofNat_of_zero_le (pickI_bd first 1000 (by omega)).1
  have hp1 : p < 1000 := by have := (pickI_bd first 1000 (by omega)).2; omega
  have HPICK := Lib.hid (fun W => pick_any first 1000 W h1 h2 (by omega) (by omega))
  rw [hp] at HPICK
  clear hp
  unfold Ent.val
  go_enter Try.func4, Try.ntmps4
  go_wp2_with fail
  refine (awake_any _).mono ?_
  rintro x w1 ⟨rfl, t1⟩
  have eb := (Blk.new w 33 e.arr).keep t1
  have hlt1 := t1.size
  simp at hlt1
  have tw1 : Tch None_ w w1 := ((Tch.refl None_ w).alloc _).then t1
  go_wp2_with fail
  refine (QfNew w1).mono ?_
  rintro x w2 ⟨g, mb, rfl, hq2⟩
  have HEB := Lib.hid eb
  clear t1 eb
  go_wp2_with fail
  have T1 : Tch None_ w2 (w2.alloc (.cells #[.slice none 0 0] 41)) := (Tch.refl _ _).alloc _
  have HF : Hid (FillAt w1 (w2.alloc (.cells #[.slice none 0 0] 41)) g mb w2.heap.size (.slice none 0 0) (.slice none 0 0) [] (fillL p 0)) :=
    ⟨hq2.keep T1, Blk.new w2 _ _, World.ownsRow_nil _ _ _ _, by simp [Value.ownBlock], hq2.t.size⟩
  have HW1 := Lib.hid tw1
  clear T1 hq2 tw1
  go_loopg [8] 4096 (fun gh s8 wr => ∃ (i : Nat) (v vy : Value) (s : List Ent), s8 = .int .i64 i ∧ 4096 - i = gh ∧ i ≤ 4096 ∧ Hid (FillAt w1 wr g mb w2.heap.size v vy s (fillL p i)) ∧ Hid (s.Perm (fillL p i)))
  case atStart => exact ⟨0, _, _, [], rfl, rfl, by omega, HF.out, List.Perm.refl _⟩
  case round =>
    obtain ⟨i, v, vy, s, rfl, rfl, hi, HFA, HPS⟩ := hrel
    by_cases hlt : i < 4096
    · have hsl : s.length = i := by rw [HPS.out.length_eq]; simp
      have HEN := Lib.hid (fun W => entry_any ((i : Int) % 7) ((p : Int) + i) 5 W)
      have HPU := Lib.hid (fun W (h : Tch None_ wr W) => QfPush_ok w1 g mb v s (fillE p i) W (HFA.out.q.keep h) (fill_ok hp1 hlt) (fill_new HPS.out) (by omega))
      simp only [Ent.val, fillE] at HPU
      go_wp2_with (first
        | (go_at_call 13; (with_reducible refine (HPICK.out _).mono ?_); rintro x w3 ⟨rfl, rfl⟩)
        | (go_at_call 14; (with_reducible refine (HEN.out _).mono ?_); rintro x w4 ⟨rfl, g4⟩; have HT4 := Lib.hid g4.tch; clear g4)
        | (go_at_call 9; (with_reducible refine (HPU.out _ HT4.out).mono ?_); rintro x w5 ⟨v5, rfl, hq5, ht5, hv5⟩; have HF5 := Lib.hid ((HFA.out.keep HT4.out).turn hq5 ht5 hv5); clear hq5 ht5 hv5))
      have hvf := own_form HF5.out.row
      obtain ⟨Ay, cy, rfl, _, _⟩ := hvf
      rw [fillL_len] at HF5 HFA
      have c0 : w5.cell? ⟨w2.heap.size, 0, none⟩ = some (.slice Ay i cy) := by simpa using HF5.out.y.cell 0
      have hyl := HF5.out.y.lt
      have hny : (Value.slice Ay i cy).ownBlock ≠ some w2.heap.size := fun e => own_ne_blk HF5.out.row HF5.out.y (by decide) _ e rfl
      have h7 : (i : Int).tmod 7 = (i : Int) % 7 := Int.tmod_eq_emod_of_nonneg (by omega)
      have h7b : IntKind.i64.wrap ((i : Int) % 7) = (i : Int) % 7 := IntWalk.i64_in _ (by omega)
      have h63 : i + 1 ≤ maxLen := by simp only [maxLen]; omega
      have h64 : (i + 1) * 64 ≤ 140737488355328 := by omega
      clear HPICK HPU
      go_region_law
        ((first
          | (refine step_append_lies _ (by rfl) _ _ _ (by rfl) w1.heap.size 33 i0 _ 8 64 Try.underlying22 hi0 hz0 hz1 hz2 rfl (by omega) _ _ _ (by rfl) (hr6.alloc _)
              ⟨w6.heap.size, 0, none⟩ 1 1 [.int .i64 ((i : Int) % 7), .int .i64 ((p : Int) + i), .int .i64 5, .int .i64 0, .int .i64 0, .int .i64 0, .int .i64 0, .int .i64 0] (by rfl) (by rfl) (World.news_of_block (cs := #[.int .i64 ((i : Int) % 7), .int .i64 ((p : Int) + i), .int .i64 5, .int .i64 0, .int .i64 0, .int .i64 0, .int .i64 0, .int .i64 0]) (t := 33) (fr := (0, 0)) (heap_alloc_new w6 _)) (by simp [Value.oneCell'])
              (by omega) h63 h64 (by simp; omega) (w6.heap.size + 1) (by simp) ?_; intro gg cap w7 hown7 hgrow7 hat7 hlt7; have hc7 := hgrow7.cell_far ⟨w2.heap.size, 0, none⟩ (by simp; omega) (Ne.symm hny); have hf7 := hgrow7.frozen_far ⟨w2.heap.size, 0, none⟩ (by simp; omega) (Ne.symm hny))
          | (go_simp; go_at_call 14; (with_reducible refine (HEN.out _).mono ?_); rintro x w6 ⟨rfl, g6⟩; have ht6 : Tch None_ w5 w6 := (Tch.refl _ _).drew.then g6.tch; have hc6 := ht6.cell (p := ⟨w2.heap.size, 0, none⟩) hyl (fun h => h); have hr6 := ht6.row HF5.out.row (fun _ _ h => h); rw [fillL_len] at hr6; have hyl6 := (HF5.out.y.keep ht6).lt; have hf6 := (HF5.out.y.keep ht6).frozen 0; have hw6 : w1.heap.size ≤ w6.heap.size := Nat.le_trans HF5.out.q.t.size ht6.size)))
      all_goals
        have hfin := HF5.out.push (e := fillE p i) (fillL_len p i) (ht6.alloc _) hown7 hgrow7 (by
          rcases hat7 with h | h
          · exact .inl h
          · exact .inr (by simp; omega))
        rw [← fillL_succ] at hfin
        clear hc7 hf7 h7 h7b
        go_wp2_with fail
        go_roundg (4096 - (i + 1))
        case measure => omega
        case rel =>
          refine ⟨i + 1, _, _, _, by go_num, rfl, by omega, hfin, ?_⟩
          show (ins (fillE p i) s).Perm (fillL p (i + 1))
          rw [fillL_succ]
          exact (ins_perm _ _).trans ((HPS.out.cons _).trans (List.perm_append_comm (l₁ := [fillE p i])))
    · obtain rfl : i = 4096 := by omega
      have hrowy := HFA.out.row
      obtain ⟨Ay, cy, rfl, _, _⟩ := own_form hrowy
      rw [fillL_len] at HFA
      clear hrowy
      go_wp2_with fail
      obtain ⟨wo, rfl⟩ : ∃ wo : World, wo = wr := ⟨_, rfl⟩
      go_loopg [11, 12] 4096 (fun gh s11 s12 wy => ∃ (i : Nat) (tw : Bool), s11 = .bool tw ∧ s12 = .int .i64 i ∧ 4096 - i = gh ∧ i ≤ 4096 ∧ Hid (TwAt p i e tw) ∧ Hid (Tch None_ wo wy))
      case atStart => exact ⟨0, false, rfl, rfl, rfl, by omega, TwAt.start p e, Tch.refl _ _⟩
      case round =>
        obtain ⟨i, tw, rfl, rfl, rfl, hi, HTW, HT⟩ := hrel
        have hf := HFA.out.keep HT.out
        have c0 : wr.cell? ⟨w2.heap.size, 0, none⟩ = some (.slice Ay 4096 cy) := by simpa using hf.y.cell 0
        by_cases hlt : i < 4096
        · cases tw with
          | true =>
            clear hf
            go_wp2_with fail
            go_quiet (fail)
            go_wp2_with fail
            go_roundg (4096 - (i + 1))
            case measure => omega
            case rel =>
              exact ⟨i + 1, true, rfl, by go_num, rfl, by omega, HTW.out.stay, HT.out.drewN _⟩
          | false =>
            have heb := (HEB.out.keep HFA.out.q.t).keep HT.out
            have a0 := heb.cell 0
            have a1 := heb.cell 1
            have a2 := heb.cell 2
            have a3 := heb.cell 3
            have a4 := heb.cell 4
            have a5 := heb.cell 5
            have a6 := heb.cell 6
            have a7 := heb.cell 7
            simp [Ent.arr] at a0 a1 a2 a3 a4 a5 a6 a7
            obtain ⟨by_, cys, rfl, _⟩ := Blk.of_own (by have := hf.row; rwa [fillL_len] at this) (show 0 < 4096 by omega)
            obtain ⟨x0, x1, x2, x3, x4, x5, x6, x7⟩ := own_at8 (n := 4096) (by have := hf.row; rwa [fillL_len] at this) i hlt
            rw [fillL_el hlt] at x0 x1 x2 x3 x4 x5 x6 x7
            have HO := Lib.hid (fun W => Order_any (fillE p i) e W)
            have hz := Ent.ord_zero (fillE p i) e
            generalize (fillE p i).ord e = r at *
            unfold Ent.val at HO
            simp only [fillE] at x0 x1 x2 x3 x4 x5 x6 x7 HO
            clear hf heb
            go_wp2_with fail
            go_still_tail 10, (by kernel_rfl)
            clear x0 x1 x2 x3 x4 x5 x6 x7 a0 a1 a2 a3 a4 a5 a6 a7 c0
            by_cases hr0 : r = 0
            · have hke := hz.1 hr0
              have HKE := Lib.hid hke
              subst hr0
              clear hz hke
              go_wp2_with (go_at_call 12; (with_reducible refine (HO.out _).mono ?_); rintro x w3 ⟨rfl, g3⟩)
              go_roundg (4096 - (i + 1))
              case measure => omega
              case rel => exact ⟨i + 1, true, rfl, by go_num, rfl, by omega, TwAt.hit HKE.out, HT.out.drew.quiet g3.tch⟩
            · have hke : (fillE p i).key ≠ e.key := fun h => hr0 (hz.2 h)
              have HKE := Lib.hid hke
              have hrb : (r == 0) = false := by simpa using hr0
              clear hz hke hr0
              go_wp2_with (go_at_call 12; (with_reducible refine (HO.out _).mono ?_); rintro x w3 ⟨rfl, g3⟩)
              go_roundg (4096 - (i + 1))
              case measure => omega
              case rel => exact ⟨i + 1, false, rfl, by go_num, rfl, by omega, HTW.out.miss HKE.out, HT.out.drew.quiet g3.tch⟩
        · obtain rfl : i = 4096 := by omega
          have hfl : s.length = 4096 := by rw [HPS.out.length_eq]; simp
          cases s with
          | nil => simp at hfl
          | cons x s' =>
            have hx0 : x = fill0 p := by rw [← fill0_eq]; exact fill_first HPS.out hf.q.q.up (by omega)
            subst hx0
            have heb := (HEB.out.keep HFA.out.q.t).keep HT.out
            have a0 := heb.cell 0
            have a1 := heb.cell 1
            have a2 := heb.cell 2
            have a3 := heb.cell 3
            have a4 := heb.cell 4
            have a5 := heb.cell 5
            have a6 := heb.cell 6
            have a7 := heb.cell 7
            simp [Ent.arr] at a0 a1 a2 a3 a4 a5 a6 a7
            have hpm := pushMore w1 wr g mb p v _ e tw hf.q he HPS.out HTW.out
            have HF := Lib.hid hf
            have H9 : Hid ((fill9 p).key ∈ (fill0 p :: s').map Ent.key) := by
              refine (HPS.out.map Ent.key).mem_iff.2 (List.mem_map.2 ⟨fill9 p, ?_, rfl⟩)
              rw [← fill9_eq]
              exact List.mem_map.2 ⟨9, by simp, rfl⟩
            have hok9 : okK (fill9 p).key := by rw [← fill9_eq]; exact fill_ok hp1 (by omega)
            have hok0 : okK (fill0 p).key := by rw [← fill0_eq]; exact fill_ok hp1 (by omega)
            have HL := Lib.hid hfl
            have H0 : Hid ((fill0 p).key ∉ s'.map Ent.key) := by
              have := hf.q.q.up.keys
              unfold Keys1 at this
              rw [List.map_cons, List.nodup_cons] at this
              exact this.1
            cases tw
            all_goals
              simp only [if_true, Bool.false_eq_true, if_false] at hpm
              have HPM := Lib.hid hpm
              unfold Ent.val at HPM
              clear hpm hf heb
              go_wp2_with fail
              refine HPM.out.mono ?_
              rintro x w3 ⟨rfl, ht3⟩
              have hf3 := HF.out.keep ht3
              have hr3 := hf3.row
              rw [fillL_len] at hr3
              obtain ⟨b9, cs9, rfl, _⟩ := Blk.of_own hr3 (by omega)
              have c3 : w3.cell? ⟨w2.heap.size, 0, none⟩ = some (.slice (some ⟨b9, 0, none⟩) 4096 cy) := by simpa using hf3.y.cell 0
              obtain ⟨x0, x1, x2, x3, x4, x5, x6, x7⟩ := own_at8 hr3 9 (by omega)
              rw [fillL_el (by omega), fill9_eq] at x0 x1 x2 x3 x4 x5 x6 x7
              simp [fill9] at x0 x1 x2 x3 x4 x5 x6 x7
              have HP9 := Lib.hid (QsPush_twice g mb v _ (fill9 p) w3 hf3.q.q hok9 H9.out)
              simp only [Ent.val, fill9] at HP9
              have HF3 := Lib.hid hf3.q
              clear hf3 hr3 ht3 c0 HPM a0 a1 a2 a3 a4 a5 a6 a7
              go_wp2_with fail
              refine HP9.out.mono ?_
              rintro x w4 ⟨rfl, ht4⟩
              have hq4 := HF3.out.keep ht4
              have hlen := QsLen g mb v _ w4 hq4.q
              rw [HL.out] at hlen
              have HP0 := Lib.hid (QsPop_some g mb v (fill0 p) s' w4 hq4.q)
              simp only [Ent.val, fill0] at HP0
              have HQ4 := Lib.hid hq4
              clear hq4 ht4 HP9 x0 x1 x2 x3 x4 x5 x6 x7 c3
              go_wp2_with fail
              refine hlen.mono ?_
              rintro x w5 ⟨rfl, rfl⟩
              clear hlen
              go_wp2_with fail
              refine HP0.out.mono ?_
              rintro x w6 ⟨v6, rfl, hq6, ht6, hv6⟩
              have hq6' := HQ4.out.turn hq6 ht6 (.inl hv6)
              have hs6 : s'.length < 4096 := by have := HL.out; simp at this; omega
              have b16 := Blk.new w6 33 #[.int .i64 0, .int .i64 p, .int .i64 5, .int .i64 0, .int .i64 0, .int .i64 0, .int .i64 0, .int .i64 0]
              have T7 : Tch None_ w6 (w6.alloc (.cells #[.int .i64 0, .int .i64 p, .int .i64 5, .int .i64 0, .int .i64 0, .int .i64 0, .int .i64 0, .int .i64 0] 33)) := (Tch.refl _ _).alloc _
              have HPF := Lib.hid (QfPush_ok w1 g mb v6 s' (fill0 p) _ (hq6'.keep T7) hok0 H0.out hs6)
              simp only [Ent.val, fill0] at HPF
              have hg6 := hq6.glt
              have hm6 := hq6.mlt
              have HVL := Lib.hid hq6.vlt
              have HB16 := Lib.hid b16
              clear hq6 ht6 hv6 HP0 T7 b16 hq6' hs6
              go_wp2_with fail
              refine HPF.out.mono ?_
              rintro x w7 ⟨v7, rfl, hq7, ht7, hv7⟩
              have hb7 := HB16.out.tch ht7 (fun h => by
                rcases h with (h | h) | h
                · omega
                · omega
                · have := HVL.out _ h; omega)
              have HB7 := Lib.hid hb7
              have HQ7 := Lib.hid hq7
              clear hb7 hq7 ht7 hv7 HPF hg6 hm6
              go_wp2_with fail
              have HS : Hid (∀ w', Tch None_ w7 w' → w'.cell? ⟨w6.heap.size, 0, none⟩ = some (.int .i64 0) ∧ w'.cell? ⟨w6.heap.size, 1, none⟩ = some (.int .i64 p) ∧ w'.cell? ⟨w6.heap.size, 2, none⟩ = some (.int .i64 5) ∧ w'.cell? ⟨w6.heap.size, 3, none⟩ = some (.int .i64 0) ∧ w'.cell? ⟨w6.heap.size, 4, none⟩ = some (.int .i64 0) ∧ w'.cell? ⟨w6.heap.size, 5, none⟩ = some (.int .i64 0) ∧ w'.cell? ⟨w6.heap.size, 6, none⟩ = some (.int .i64 0) ∧ w'.cell? ⟨w6.heap.size, 7, none⟩ = some (.int .i64 0)) := by
                intro w' h
                have k := HB7.out.keep h
                exact ⟨by simpa using k.cell 0, by simpa using k.cell 1, by simpa using k.cell 2, by simpa using k.cell 3, by simpa using k.cell 4, by simpa using k.cell 5, by simpa using k.cell 6, by simpa using k.cell 7⟩
              have HE := Lib.hid (fun W => entry_any 0 (p : Int) 5 W)
              go_region_held3 (fun w' => w'.cell? ⟨w6.heap.size, 0, none⟩ = some (.int .i64 0) ∧ w'.cell? ⟨w6.heap.size, 1, none⟩ = some (.int .i64 p) ∧ w'.cell? ⟨w6.heap.size, 2, none⟩ = some (.int .i64 5) ∧ w'.cell? ⟨w6.heap.size, 3, none⟩ = some (.int .i64 0) ∧ w'.cell? ⟨w6.heap.size, 4, none⟩ = some (.int .i64 0) ∧ w'.cell? ⟨w6.heap.size, 5, none⟩ = some (.int .i64 0) ∧ w'.cell? ⟨w6.heap.size, 6, none⟩ = some (.int .i64 0) ∧ w'.cell? ⟨w6.heap.size, 7, none⟩ = some (.int .i64 0))
                ((refine HS.out _ ?_; first | assumption | exact (Tch.refl _ _).drew))
                (first
                  | (go_at_call 13
                     refine (HPICK.out _).mono ?_
                     rintro e w8 ⟨rfl, rfl⟩
                     have hq8 : Tch None_ w7 w7.drew := (Tch.refl _ _).drew)
                  | (go_at_call 14
                     refine (HE.out _).mono ?_
                     rintro e w9 ⟨rfl, g9⟩
                     have hq9 : Tch None_ w7 w9 := hq8.then g9.tch))
              go_wp2_with fail
              go_ret
              exact ⟨rfl, HW1.out.quiet (HQ7.out.keep hq9).t⟩
end Go.Proofs.Ytfdgkikgafojpaa
