/-
  BagBrings: a walk of the law's code: it returns true.
-/
import Derived.Test.YtpjlfmaebkjojaaAwake
import Derived.Deep.LoopGhost
import Derived.Deep.CutRange
namespace Go.Proofs.Ytpjlfmaebkjojaa
open Go.RowKit Go.Maps

/-- One of the data: its slice's value and its bytes. -/
structure RowD where
  A : Option Addr
  n : Nat
  c : Nat
  l : List Int
def RowD.vals (r : RowD) : List Value := [.slice r.A r.n r.c]
theorem RowD.one (r : RowD) : r.vals.length = 1 := rfl
def i64s (l : List Nat) : List Value := l.map fun (x : Nat) => Value.int .i64 (x : Int)
def iOne (x : Nat) : List Value := [Value.int .i64 (x : Int)]
theorem i64s_flat (l : List Nat) : i64s l = l.flatMap iOne := by
  induction l with
  | nil => rfl
  | cons a l ih => simp [i64s, iOne] at ih ⊢; exact ih
theorem i64s_one (l : List Nat) : ∀ u ∈ i64s l, u.oneCell' = true := by
  intro u hu
  obtain ⟨x, _, rfl⟩ := List.mem_map.1 hu
  rfl
def zOne (x : Int) : List Value := [Value.int .i64 x]
def row0 : RowD := ⟨none, 0, 0, []⟩
/-- The parcel of the i-th data. -/
def mk (rows : List RowD) (V : Nat → Value) (i : Nat) : Par := ⟨((i + 1 : Nat) : Int), (i : Int), -(i : Int), (rows.getD i row0).l, V i⟩
theorem mk_snoc (rows : List RowD) (V : Nat → Value) (v : Value) (i : Nat) :
    (List.range i).map (mk rows V) ++ [⟨((i + 1 : Nat) : Int), (i : Int), -(i : Int), (rows.getD i row0).l, v⟩] = (List.range (i + 1)).map (mk rows fun j => if j = i then v else V j) := by
  rw [List.range_succ, List.map_append]
  congr 1
  · apply List.map_congr_left
    intro j hj
    have : j < i := by simpa using hj
    simp [mk, show j ≠ i by omega]
  · simp [mk]
theorem info3 : (Try.prog.info? 3).map (fun i => (i.zero, i.size, i.bytes)) = some (some (.int .i64 0), 1, 8) := by kernel_rfl

/-- Growing another slice leaves the bag. -/
theorem BagAt.grown {w w' : World} {base base' g mb last n : Nat} {t : TypeId} {size : Nat} {ps : List Par} {v : Value} {xs : List Value} (h : BagAt w base g mb ps last) (ho : w.ownsRow base' t size v n xs) (h1 : t ≠ 57) (h2 : t ≠ 5)
    (ht : Tch (fun k => some k = v.ownBlock) w w') : BagAt w' base g mb ps last := by
  have key : ∀ k, some k = v.ownBlock → ∃ cs, Blk w k t cs := by
    intro k hk
    rcases ho.2 with ⟨rfl, _⟩ | ⟨g', cap, cur, rfl, _, hh, _⟩
    · simp [Value.ownBlock] at hk
    · simp [Value.ownBlock] at hk
      subst hk
      exact ⟨cur, hh⟩
  refine h.tch ht ?_ ?_ ?_
  · intro e
    obtain ⟨cs, hb⟩ := key _ e
    exact hb.ne_ h.box h1 rfl
  · intro e
    exact h.map.ne_own ho _ e.symm rfl
  · intro j hj e
    obtain ⟨cs, hb⟩ := key _ e
    obtain ⟨p, hp, hk⟩ := List.mem_filterMap.1 hj
    rcases (h.rows p hp).2 with ⟨e', _⟩ | ⟨g', cap, cur, e', _, hh, _⟩
    · rw [e'] at hk; simp [Value.ownBlock] at hk
    · rw [e'] at hk
      simp [Value.ownBlock] at hk
      subst hk
      exact hb.ne_ (t' := 5) hh h2 rfl

theorem Reads.cut_ {w : World} {B n : Nat} {A : Option Addr} {xs : List Value} (h : Reads w B 1 A n xs) {a : Nat} (ha : a ≤ n) : Reads w B 1 A a (xs.take a) := by
  refine ⟨by rw [List.length_take, h.1]; omega, fun h0 => ?_⟩
  obtain ⟨ad, e, hb, hc⟩ := h.2 (by omega)
  refine ⟨ad, e, hb, fun j u hu => hc j u ?_⟩
  rw [List.getElem?_take] at hu
  split at hu
  · exact hu
  · cases hu
theorem Reads.rest_ {w : World} {B n : Nat} {ad : Addr} {xs : List Value} (h : Reads w B 1 (some ad) n xs) (a : Nat) (ha : a ≤ n) : Reads w B 1 (some (ad.add a)) (n - a) (xs.drop a) := by
  refine ⟨by rw [List.length_drop, h.1]; omega, fun h0 => ?_⟩
  obtain ⟨ad', e, hb, hc⟩ := h.2 (by omega)
  injection e with e
  subst e
  refine ⟨_, rfl, by rw [block_of_add]; exact hb, fun j u hu => ?_⟩
  rw [add_of_add]
  exact hc _ u (by rwa [List.getElem?_drop] at hu)

/-- Every row reads below B. -/
def RowsAt (w : World) (B : Nat) (rows : List RowD) : Prop := ∀ r ∈ rows, Reads w B 1 r.A r.n (u8s r.l) ∧ r.n ≤ 140737488351232
theorem RowsAt.tch {w w' : World} {B : Nat} {rows : List RowD} (h : RowsAt w B rows) (ht : Tch None_ w w') (hB : B ≤ w.heap.size) : RowsAt w' B rows :=
  fun r hr => ⟨(h r hr).1.tch ht hB (fun _ _ h => h), (h r hr).2⟩
theorem Reads.far {w : World} {B size n : Nat} {A : Option Addr} {xs : List Value} (h : Reads w B size A n xs) (h0 : 0 < n) : ∀ ad, A = some ad → ad.block < B := by
  intro ad e
  obtain ⟨ad', e', hb, _⟩ := h.2 h0
  rw [e] at e'
  injection e' with e'
  subst e'
  exact hb

set_option maxRecDepth 100000 in
set_option maxHeartbeats 2000000 in
theorem Brings_any (m mc k kc B : Nat) (D O : Option Addr) (rows : List RowD) (order : List Int) (w : World) (hB : B ≤ w.heap.size)
    (hD : Reads w B 1 D m (rows.flatMap RowD.vals)) (hrows : RowsAt w B rows) (hm : rows.length = m) (hms : m ≤ 5864062014634)
    (hO : Reads w B 1 O k (order.flatMap zOne)) (hk : order.length = k) (hks : k ≤ 17592186043904) (hob : ∀ x ∈ order, -9223372036854775808 ≤ x ∧ x ≤ 9223372036854775807) :
    Calls Try.prog 3 #[.slice D m mc, .slice O k kc] w fun e w' => e = .returned (.bool true) ∧ Tch None_ w w' := by
  have HO := Lib.hid hO
  have HOB := Lib.hid hob
  have HR := Lib.hid hrows
  clear hO hob hrows
  go_enter Try.func3, Try.ntmps3
  go_wp2_with fail
  refine (awake_any w).mono ?_
  rintro e w1 ⟨rfl, ht1⟩
  go_wp2_with fail
  refine (New_any w1).mono ?_
  rintro e w2 ⟨g, mb, rfl, hg2, hgg, hmm, ht2⟩
  have hg2 := hg2 w1.heap.size
  have ht2 := ht1.then ht2
  have hgw : w.heap.size ≤ g := Nat.le_trans ht1.size hgg
  have hmw : w.heap.size ≤ mb := Nat.le_trans ht1.size hmm
  have hg2 : BagAt w2 w.heap.size g mb [] 0 := ⟨hg2.box, hg2.map, by simp, hg2.up, hg2.bd, hg2.nd, hg2.sz⟩
  clear ht1 hgg hmm
  go_wp2_with fail
  go_loopw [7] (fun i wr => ∃ j : Nat, j ≤ m ∧ i = .int .i64 j ∧ ∃ V, BagAt wr w.heap.size g mb ((List.range j).map (mk rows V)) j ∧ Tch None_ w wr) (fun i _ => m - (intOf i).toNat)
  case atStart => exact ⟨0, by omega, rfl, fun _ => .bool false, by simpa using hg2, ht2⟩
  case round =>
    obtain ⟨j, hj, rfl, V, hg, ht⟩ := hrel
    clear hg2 ht2
    by_cases hlt : j < m
    · obtain ⟨r, hr⟩ : ∃ r, rows[j]'(by omega) = r := ⟨_, rfl⟩
      obtain ⟨b, off, rfl, _, c0⟩ := (hD.tch ht hB (fun _ _ h => h)).field RowD.one hm j 0 hlt (by omega)
      have hrr := (HR.out r (by rw [← hr]; exact List.getElem_mem _))
      have hr2 := hrr.1.tch ht hB (fun _ _ h => h)
      have hgd : rows.getD j row0 = r := by rw [← hr]; simp [List.getD, show j < rows.length by omega]
      rw [hr] at c0
      simp [RowD.vals] at c0
      have HS := Lib.hid (Send_any g mb w.heap.size j _ j (-(j : Int)) r.n r.c B r.A r.l wr hg (by omega) (Nat.le_trans hB ht.size) ht.size hr2 (fun h0 ad e => by have := hrr.1.far h0 ad e; omega) hrr.2)
      clear hr hrr hr2 hg
      go_wp2_with fail
      refine HS.out.mono ?_
      rintro e w3 ⟨v, rfl, hg3, _, ht3⟩
      have ht3 := ht.trans ht3 (fun i hi e => by omega)
      rw [← hgd, mk_snoc] at hg3
      clear HS
      go_wp2_with fail
      go_roundw
      case rel => exact ⟨j + 1, by omega, by go_num, _, hg3, ht3⟩
      case measure => simp [intOf]; omega
    · obtain rfl : j = m := by omega
      go_wp2_with fail
      obtain ⟨i0, hi, hz0, hz1, hz2⟩ := info_parts info3
      go_loopw [9, 10] (fun v i wr => ∃ q : Nat, q ≤ j ∧ i = .int .i64 q ∧ wr.ownsRow w.heap.size 3 1 v q (i64s (List.range q)) ∧ BagAt wr w.heap.size g mb ((List.range j).map (mk rows V)) j ∧ Tch None_ w wr) (fun _ i _ => j - (intOf i).toNat)
      case atStart => exact ⟨0, by omega, rfl, World.ownsRow_nil _ _ _ _, hg, ht⟩
      case round =>
        obtain ⟨q, hq, rfl, hown, hgq, htq⟩ := hrel
        clear hg ht
        by_cases hqj : q < j
        · have hox := hown.alloc (.cells #[.int .i64 q] 3)
          go_wp2_with (at_builtin; refine wpList_append_any _ rfl (.tmp 54) (.tmp 56) 23 rfl w.heap.size 3 i0 (.int .i64 0) 1 8 Try.underlying23 hi hz0 hz1 hz2 rfl (by omega) _ _ _ rfl hox (wr.heap.size + 1) (some ⟨wr.heap.size, 0, none⟩) 1 1 [.int .i64 q] rfl ⟨rfl, fun _ => ⟨_, rfl, by simp, fun j u hu => by rw [add_plain, cell_of_row _ _ _ _ _ (0, 0) (heap_alloc_new wr _)]; simpa using hu⟩⟩ (by simp [Value.oneCell']) (by simp only [maxLen]; omega) (by omega) (by have := htq.size; simp; omega) ?_)
          intro v4 w4 hown4 hg4 hat4
          have T4 : Tch (fun k => some k = u9.ownBlock) wr w4 := ((Tch.refl _ _).alloc _).grown hg4 (fun k hk => .inl hk.symm)
          have ht4 : Tch None_ w w4 := (htq.alloc _).grown hg4 (fun k hk => .inr ((hown.lt k hk).1))
          have hg5 := hgq.grown hown (by decide) (by decide) T4
          have hown5 : w4.ownsRow w.heap.size 3 1 v4 (q + 1) (i64s (List.range (q + 1))) := by
            have : i64s (List.range (q + 1)) = i64s (List.range q) ++ [.int .i64 q] := by simp [i64s, List.range_succ]
            rw [this]; exact hown4
          clear hown hgq htq hox hown4 hg4 hat4 T4
          go_wp2_with fail
          go_roundw
          case rel => exact ⟨q + 1, by omega, by go_num, hown5, hg5, ht4⟩
          case measure => simp [intOf]; omega
        · obtain rfl : q = j := by omega
          go_wp2_with fail
          go_loopg [9, 11] q (fun gh v i wr => ∃ (s : Nat) (L : List Nat), i = .int .i64 s ∧ gh = L.length ∧ s + L.length = q ∧ (∀ x ∈ L, x < q) ∧ wr.ownsRow w.heap.size 3 1 v L.length (i64s L) ∧ BagAt wr w.heap.size g mb (L.map (mk rows V)) q ∧ Tch None_ w wr)
          case atStart => exact ⟨0, List.range q, rfl, by simp, by simp, by simp, by simpa using hown, hgq, htq⟩
          case round =>
            obtain ⟨s, L, rfl, rfl, hs, hL, hownL, hgL, htL⟩ := hrel
            clear hown hgq htq
            by_cases h0 : 0 < L.length
            · obtain ⟨A', c', hv', hc', _⟩ := own_form hownL
              subst hv'
              obtain ⟨gl, cs, rfl, _, _, hcm, hcs, htk, hbl⟩ := Blk.of_own hownL h0
              have Hk := Lib.hid hk
              go_upto_if 66 with fail
              go_cut [12] from 58 to 141 (fun v wx => ∃ a : Nat, v = .int .i64 a ∧ a < L.length ∧ wr = wx)
              case first =>
                by_cases hsk : s < order.length
                · obtain ⟨b, off, rfl, _, c0⟩ := (HO.out.tch htL hB (fun _ _ h => h)).field (enc := zOne) (fun _ => rfl) Hk.out s 0 (by have := Hk.out; omega) (by omega)
                  have hx := HOB.out _ (List.getElem_mem hsk)
                  generalize order[s] = x at c0 hx
                  simp [zOne] at c0
                  have hpb := pickI_bd x L.length (by omega)
                  have hsk' : s < k := by have := Hk.out; omega
                  go_wp2_with fail
                  refine (pick_any x L.length wr hx.1 hx.2 (by omega) (by simp only [maxLen] at hcm; omega)).mono ?_
                  rintro e w9 ⟨rfl, rfl⟩
                  obtain ⟨a, ha⟩ := Int.eq_ofNat_of_zero_le hpb.1
                  rw [ha]
                  have HA := Lib.hid ha
                  have ha' : a < L.length := by omega
                  clear ha hpb
                  go_wp2_with fail
                  go_meet
                  case rel => exact ⟨a, rfl, ha', rfl⟩
                · have hsk' : ¬ s < k := by have := Hk.out; omega
                  go_wp2_with fail
                  go_meet
                  case rel => exact ⟨0, rfl, h0, rfl⟩
              case rest =>
                obtain ⟨a, rfl, ha, rfl⟩ := hcut
                obtain ⟨i, hi'⟩ : ∃ i, L[a] = i := ⟨_, rfl⟩
                have hiq : i < q := by rw [← hi']; exact hL _ (List.getElem_mem ha)
                have hir : i < rows.length := by rw [hm]; exact hiq
                obtain ⟨r, hr⟩ : ∃ r, rows[i]'hir = r := ⟨_, rfl⟩
                have hgd : rows.getD i row0 = r := by rw [← hr]; simp [List.getD, hir]
                have hsplit : L = L.take a ++ i :: L.drop (a + 1) := by rw [← hi', List.getElem_cons_drop, List.take_append_drop]
                have ci : wr.cell? ⟨gl, a, none⟩ = some (.int .i64 i) := by
                  have h1 := congrArg (·[a]?) htk
                  simp only [List.getElem?_take, Nat.mul_one] at h1
                  rw [if_pos ha] at h1
                  rw [hbl.cell]
                  simpa [i64s, ha, hi'] using h1
                have lgl := hbl.lt
                have hsz := hcs
                obtain ⟨L1, hL1⟩ : ∃ L1, L.take a = L1 := ⟨_, rfl⟩
                obtain ⟨L2, hL2⟩ : ∃ L2, L.drop (a + 1) = L2 := ⟨_, rfl⟩
                rw [hL1, hL2] at hsplit
                have hgS : BagAt wr w.heap.size g mb (L1.map (mk rows V) ++ mk rows V i :: L2.map (mk rows V)) q := by
                  have := hgL
                  rw [hsplit] at this
                  simpa using this
                have hup := hgS.up
                have hne : ∀ p ∈ L1.map (mk rows V) ++ L2.map (mk rows V), p.no ≠ (i : Int) + 1 := by
                  have e : (mk rows V i).no = (i : Int) + 1 := by simp [mk]
                  rw [List.pairwise_append] at hup
                  intro p hp
                  rcases List.mem_append.1 hp with hp | hp
                  · have := hup.2.2 p hp (mk rows V i) (by simp)
                    omega
                  · have := (List.pairwise_cons.1 hup.2.1).1 p hp
                    omega
                have hglmb := hgS.map.ne_blk hbl
                have hrow := hgS.rows (mk rows V i) (by simp)
                have hnb : ∀ k, (V i).ownBlock = some k → k ≠ g ∧ k ≠ mb := fun k hk => hgS.blk_ne k (List.mem_filterMap.2 ⟨mk rows V i, by simp, hk⟩)
                have hlsz := hgS.sz (mk rows V i) (by simp)
                have HD := Deliver_hit g mb w.heap.size q _ _ _ wr hgS (by omega)
                have e : (mk rows V i).no = (i : Int) + 1 := by simp [mk]
                rw [e] at HD
                simp only [Par.val, e] at HD
                simp only [mk] at HD hrow hlsz
                rw [hgd] at hrow hlsz
                obtain ⟨Ai, cI, hVi, _, _⟩ := own_form hrow
                rw [hVi] at HD hrow hnb
                have HD := Lib.hid HD
                have HN := Lib.hid hne
                have HNB := Lib.hid hnb
                have HSP := Lib.hid hsplit
                clear hgS hup hne hnb e hsplit hgL hVi
                have HL := Lib.hid hL
                have H1 := Lib.hid hL1
                have H2 := Lib.hid hL2
                have HI := Lib.hid hi'
                have HRR := Lib.hid (HR.out r (by rw [← hr]; exact List.getElem_mem _))
                have HRI := Lib.hid hr
                clear hL hL1 hL2 hi' hk hgd hr
                go_wp2_with fail
                refine HD.out.mono ?_
                rintro e w4 ⟨rfl, hg4, T4⟩
                have hrow4 := T4.row hrow (fun k hk => (HNB.out k hk).2)
                have hown4 := T4.row hownL (fun k hk e => hglmb (by rw [← e]; simpa [Value.ownBlock] using hk))
                have htL4 := htL.trans T4 (fun i hi e => by omega)
                clear HD HNB hrow hownL T4 ci htL
                go_wp2_with fail
                have hb5 := Blk.new w4 31 #[.int .i64 ((i : Int) + 1), .int .i64 i, .int .i64 (-(i : Int)), .slice Ai r.l.length cI]
                have T5 : Tch None_ w4 (w4.alloc (.cells #[.int .i64 ((i : Int) + 1), .int .i64 i, .int .i64 (-(i : Int)), .slice Ai r.l.length cI] 31)) := (Tch.refl _ _).alloc _
                refine (Deliver_miss g mb w.heap.size q _ ((i : Int) + 1) _ (hg4.keep T5) (by omega) (by omega) HN.out).mono ?_
                rintro e w6 ⟨rfl, t2⟩
                have T6 : Tch None_ w4 w6 := T5.then t2
                have hb6 := hb5.keep t2
                clear hb5 T5 t2
                have T7 : Tch None_ w4 (w6.alloc (.cells #[.int .i64 0, .int .i64 0, .int .i64 0, .slice none 0 0] 31)) := T6.alloc _
                have hb7 := hb6.alloc (.cells #[.int .i64 0, .int .i64 0, .int .i64 0, .slice none 0 0] 31)
                have c0 := hb7.cell 0
                have c1 := hb7.cell 1
                have c2 := hb7.cell 2
                have c3 := hb7.cell 3
                have htW := htL4.then T7
                obtain ⟨b, off, rfl, _, c4⟩ := (hD.tch htW hB (fun _ _ h => h)).field RowD.one hm i 0 hiq (by omega)
                rw [HRI.out] at c4
                simp [RowD.vals] at c0 c1 c2 c3 c4
                have R1 := ((Reads.of_own hrow4).tch T7 (Nat.le_refl _) (fun _ _ h => h))
                have R2 := (HRR.out.1.tch htW hB (fun _ _ h => h))
                clear T6 hb6 hb7 hrow4
                go_wp2_with fail
                have hown7 := T7.row hown4 (fun _ _ h => h)
                have hg7 := hg4.keep T7
                clear hown4 hg4 T7 htL4
                generalize w6.alloc (.cells #[.int .i64 0, .int .i64 0, .int .i64 0, .slice none 0 0] 31) = W7 at *
                have k1 := conv_any (c := cI) R1.drew
                have k2 := conv_any (c := r.c) R2.drew
                go_region
                clear k1 k2 R1 R2 c0 c1 c2 c3 c4
                have RL := Reads.of_own hown7
                have RA : Reads W7 W7.heap.size 1 (some ⟨gl, 0, none⟩) a (i64s L1) := by
                  have := RL.cut_ (a := a) (by omega)
                  rwa [show (i64s L).take a = i64s L1 from by rw [← H1.out]; simp [i64s, List.map_take]] at this
                have hcs' : c' ≤ maxLen := hcm
                go_wp2_with (at_builtin; refine wpList_append_any _ rfl (.tmp 131) (.tmp 134) 23 rfl w.heap.size 3 i0 (.int .i64 0) 1 8 Try.underlying23 hi hz0 hz1 hz2 rfl (by omega) _ _ _ rfl (World.ownsRow_nil _ _ _ _) W7.heap.size (some ⟨gl, 0, none⟩) a c' (i64s L1) rfl RA (i64s_one _) (by simp only [maxLen]; omega) (by omega) htW.size ?_)
                intro v8 w8 hown8 hgr8 hat8
                have T8 : Tch None_ W7 w8 := ((Tch.refl None_ W7).drew).grown hgr8 (fun k hk => by cases hk)
                have hat8' := Lib.hid (show ∀ k, some k = v8.ownBlock → W7.heap.size ≤ k from fun k hk => by
                  rcases hat8 with h | h
                  · rw [h] at hk; cases hk
                  · rw [h] at hk; injection hk with hk; subst hk; exact Nat.le_refl _)
                have RB := (RL.tch T8 (Nat.le_refl _) (fun _ _ h => h)).rest_ (a + 1) (by omega)
                rw [add_plain, Nat.zero_add, show (i64s L).drop (a + 1) = i64s L2 from by rw [← H2.out]; simp [i64s, List.map_drop]] at RB
                have RBX := Lib.hid (show ∀ A', (c' = a + 1 ∨ A' = some ⟨gl, a + 1, none⟩) → Reads w8 W7.heap.size 1 A' (L.length - (a + 1)) (i64s L2) from fun A' h => by
                  rcases h with h | h
                  · exact ⟨RB.1, fun h0 => absurd h0 (by omega)⟩
                  · rw [h]; exact RB)
                have lac : L.length - (a + 1) ≤ L.length := by omega
                clear hgr8 hown7 RA RL RB hat8
                by_cases hca : c' = a + 1
                · have RBY := Lib.hid (fun A' => RBX.out A' (.inl hca))
                  have RBZ := Lib.hid (show ∀ A', Reads w8 W7.heap.size 1 A' 0 (i64s L2) from fun A' => by
                    have h := RBX.out A' (.inl hca)
                    rwa [show L.length - (a + 1) = 0 from by omega] at h)
                  have HLA := Lib.hid (show L.length - (a + 1) = 0 by omega)
                  subst hca
                  clear RBX
                  go_wp2_with (at_builtin; refine wpList_append_any _ rfl (.tmp 136) (.tmp 140) 23 rfl w.heap.size 3 i0 (.int .i64 0) 1 8 Try.underlying23 hi hz0 hz1 hz2 rfl (by omega) _ _ _ rfl hown8 W7.heap.size _ _ _ (i64s L2) rfl (by first | exact RBY.out _ | exact RBZ.out _) (i64s_one _) (by simp only [maxLen]; omega) (by omega) (by have := T8.size; have := htW.size; omega) ?_)
                  intro v9 w9 hown9 hgr9 _
                  have T9 : Tch None_ W7 w9 := T8.grown hgr9 (fun k hk => .inr (hat8'.out k hk.symm))
                  have hl1 : L1.length = a := by rw [← H1.out, List.length_take]; omega
                  have hl2 : L2.length = L.length - (a + 1) := by rw [← H2.out, List.length_drop]
                  have hlen : (L1 ++ L2).length = a + (L.length - (a + 1)) := by rw [List.length_append, hl1, hl2]
                  have hown9' : w9.ownsRow w.heap.size 3 1 v9 (L1 ++ L2).length (i64s (L1 ++ L2)) := by
                    rw [hlen, HLA.out]; simpa [i64s, HLA.out] using hown9
                  have hg9 : BagAt w9 w.heap.size g mb ((L1 ++ L2).map (mk rows V)) q := by
                    rw [List.map_append]; exact hg7.keep T9
                  have ht9 := htW.then T9
                  have hmem : ∀ x ∈ L1 ++ L2, x < q := by
                    intro x hx
                    refine HL.out x ?_
                    rw [HSP.out]
                    rcases List.mem_append.1 hx with h | h
                    · exact List.mem_append_left _ h
                    · exact List.mem_append_right _ (List.mem_cons_of_mem _ h)
                  have HLE := Lib.hid hlen
                  have HM := Lib.hid hmem
                  clear hl1 hl2 hlen hown9 hgr9 hg7 T9 T8 hmem
                  go_wp2_with fail
                  go_roundg (L1 ++ L2).length
                  case measure => have := HLE.out; omega
                  case rel => exact ⟨s + 1, L1 ++ L2, by go_num, rfl, by have := HLE.out; omega, HM.out, hown9', hg9, ht9⟩
                · go_wp2_with (at_builtin; refine wpList_append_any _ rfl (.tmp 136) (.tmp 140) 23 rfl w.heap.size 3 i0 (.int .i64 0) 1 8 Try.underlying23 hi hz0 hz1 hz2 rfl (by omega) _ _ _ rfl hown8 W7.heap.size _ _ _ (i64s L2) rfl (by exact RBX.out _ (.inr rfl)) (i64s_one _) (by simp only [maxLen]; omega) (by omega) (by have := T8.size; have := htW.size; omega) ?_)
                  intro v9 w9 hown9 hgr9 _
                  have T9 : Tch None_ W7 w9 := T8.grown hgr9 (fun k hk => .inr (hat8'.out k hk.symm))
                  have hl1 : L1.length = a := by rw [← H1.out, List.length_take]; omega
                  have hl2 : L2.length = L.length - (a + 1) := by rw [← H2.out, List.length_drop]
                  have hlen : (L1 ++ L2).length = a + (L.length - (a + 1)) := by rw [List.length_append, hl1, hl2]
                  have hown9' : w9.ownsRow w.heap.size 3 1 v9 (L1 ++ L2).length (i64s (L1 ++ L2)) := by
                    rw [hlen]; simpa [i64s] using hown9
                  have hg9 : BagAt w9 w.heap.size g mb ((L1 ++ L2).map (mk rows V)) q := by
                    rw [List.map_append]; exact hg7.keep T9
                  have ht9 := htW.then T9
                  have hmem : ∀ x ∈ L1 ++ L2, x < q := by
                    intro x hx
                    refine HL.out x ?_
                    rw [HSP.out]
                    rcases List.mem_append.1 hx with h | h
                    · exact List.mem_append_left _ h
                    · exact List.mem_append_right _ (List.mem_cons_of_mem _ h)
                  have HLE := Lib.hid hlen
                  have HM := Lib.hid hmem
                  clear hl1 hl2 hlen hown9 hgr9 hg7 T9 T8 hmem
                  go_wp2_with fail
                  go_roundg (L1 ++ L2).length
                  case measure => have := HLE.out; omega
                  case rel => exact ⟨s + 1, L1 ++ L2, by go_num, rfl, by have := HLE.out; omega, HM.out, hown9', hg9, ht9⟩
            · have hnil : L = [] := List.eq_nil_of_length_eq_zero (by omega)
              subst hnil
              have HLen := Lib.hid (Len_any g mb w.heap.size q _ wr hgL)
              obtain ⟨A', c', hv', hc', _⟩ := own_form hownL
              subst hv'
              clear hgL hownL
              go_wp2_with fail
              refine HLen.out.mono ?_
              rintro e w9 ⟨rfl, rfl⟩
              go_wp2_with fail
              go_ret
              exact ⟨rfl, htL⟩
end Go.Proofs.Ytpjlfmaebkjojaa
