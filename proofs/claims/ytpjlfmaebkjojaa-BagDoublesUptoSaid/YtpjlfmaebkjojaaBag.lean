/-
  No statement is proved here: what each function of package bag comes to (walks of the code).
-/
import Derived.Test.YtpjlfmaebkjojaaRows
import Derived.Test.YtpjlfmaebkjojaaMap
import Derived.WalkSpells
import Derived.StillTailTactics
import Derived.Carry
import Derived.Deep.RegionHeld3
namespace Go.Proofs.Ytpjlfmaebkjojaa
open Go.RowKit Go.Maps

theorem info5 : (Try.prog.info? 5).map (fun i => (i.zero, i.size, i.bytes)) = some (some (.int .u8 0), 1, 1) := by kernel_rfl
theorem lawK : Keyed Try.prog 3 := int_keyed Try.underlying3
theorem zero31 (w : World) : (zeroValue 31).run Try.prog w = .ok (.agg #[.int .i64 0, .int .i64 0, .int .i64 0, .slice none 0 0]) w := by kernel_rfl

/-- A parcel: its number, from, to, its bytes, and the value of its slice. -/
structure Par where
  no : Int
  frm : Int
  to : Int
  bs : List Int
  v : Value
def Par.val (p : Par) : Value := .agg #[.int .i64 p.no, .int .i64 p.frm, .int .i64 p.to, p.v]
def Par.ent (p : Par) : Value × Value := (.int .i64 p.no, p.val)
def u8s (l : List Int) : List Value := l.map (Value.int .u8)
theorem u8s_one (l : List Int) : ∀ u ∈ u8s l, u.oneCell' = true := by
  intro u hu
  obtain ⟨x, _, rfl⟩ := List.mem_map.1 hu
  rfl
@[simp] theorem u8s_len (l : List Int) : (u8s l).length = l.length := by simp [u8s]
def blks (ps : List Par) : List Nat := ps.filterMap fun p => p.v.ownBlock
/-- A bag in memory: its block g, its map's block mb; the parcels by rising numbers; their bytes' blocks from base on, apart from each other. -/
structure BagAt (w : World) (base g mb : Nat) (ps : List Par) (last : Nat) : Prop where
  box : Blk w g 57 #[.map (some mb), .int .i64 last]
  map : MapAt Try.prog 3 w mb (ps.map Par.ent)
  rows : ∀ p ∈ ps, w.ownsRow base 5 1 p.v p.bs.length (u8s p.bs)
  up : ps.Pairwise (fun p q => p.no < q.no)
  bd : ∀ p ∈ ps, 1 ≤ p.no ∧ p.no ≤ last
  nd : (blks ps).Nodup
  sz : ∀ p ∈ ps, p.bs.length ≤ 140737488351232
theorem BagAt.ne {w : World} {base g mb last : Nat} {ps : List Par} (h : BagAt w base g mb ps last) : g ≠ mb := h.map.ne_blk h.box
theorem BagAt.tch {S : Nat → Prop} {w w' : World} {base g mb last : Nat} {ps : List Par} (h : BagAt w base g mb ps last) (ht : Tch S w w') (h1 : ¬ S g) (h2 : ¬ S mb) (h3 : ∀ j ∈ blks ps, ¬ S j) : BagAt w' base g mb ps last :=
  ⟨h.box.tch ht h1, h.map.tch ht h2, fun p hp => ht.row (h.rows p hp) (fun k hk => h3 k (List.mem_filterMap.2 ⟨p, hp, hk⟩)), h.up, h.bd, h.nd, h.sz⟩
theorem BagAt.keep {w w' : World} {base g mb last : Nat} {ps : List Par} (h : BagAt w base g mb ps last) (ht : Tch None_ w w') : BagAt w' base g mb ps last := h.tch ht (fun h => h) (fun h => h) (fun _ _ h => h)
theorem BagAt.blk_lt {w : World} {base g mb last : Nat} {ps : List Par} (h : BagAt w base g mb ps last) : ∀ j ∈ blks ps, base ≤ j ∧ j < w.heap.size := by
  intro j hj
  obtain ⟨p, hp, hk⟩ := List.mem_filterMap.1 hj
  exact (h.rows p hp).lt j hk
theorem BagAt.blk_ne {w : World} {base g mb last : Nat} {ps : List Par} (h : BagAt w base g mb ps last) : ∀ j ∈ blks ps, j ≠ g ∧ j ≠ mb := by
  intro j hj
  obtain ⟨p, hp, hk⟩ := List.mem_filterMap.1 hj
  have ho := h.rows p hp
  refine ⟨?_, h.map.ne_own ho j hk⟩
  rintro rfl
  rcases ho.2 with ⟨e, _⟩ | ⟨g', cap, cur, e, _, hh, _⟩
  · rw [e] at hk; simp [Value.ownBlock] at hk
  · rw [e] at hk
    simp [Value.ownBlock] at hk
    subst hk
    exact absurd (h.box.eq (t' := 5) hh).1 (by decide)
theorem keyI (n : Int) (h1 : -9223372036854775808 ≤ n) (h2 : n ≤ 9223372036854775807) : keyOf Try.prog 3 (.int .i64 n) = some (.int .i64 n) :=
  keyOf_int_mk Try.underlying3 (WalkArith.wf_i64 ⟨h1, h2⟩)

set_option maxHeartbeats 400000 in
theorem clone_any (n c B : Nat) (A : Option Addr) (l : List Int) (w : World) (hB : B ≤ w.heap.size) (hr : Reads w B 1 A n (u8s l)) (hn : n ≤ 140737488351232) :
    Calls Try.prog 29 #[.slice A n c] w fun e w' => ∃ v, e = .returned v ∧ w'.ownsRow w.heap.size 5 1 v n (u8s l) ∧ Tch None_ w w' := by
  obtain ⟨i0, hi, hz0, hz1, hz2⟩ := info_parts info5
  cases A with
  | none =>
    have hn0 : n = 0 := by
      rcases Nat.eq_zero_or_pos n with h | h
      · exact h
      · obtain ⟨ad, h, _⟩ := hr.2 h; cases h
    subst hn0
    have hl : l = [] := by have := hr.1; simpa using this
    subst hl
    have he := Lib.run_eql_slice_nil (P := Try.prog) w 28 5 none 0 c 0 0 Try.underlying28
    go_enter Try.func29, Try.ntmps29
    go_wp2_with fail
    go_ret
    exact ⟨_, rfl, World.ownsRow_nil _ _ _ _, Tch.refl _ _⟩
  | some ad =>
    have he := Lib.run_eql_slice_nil (P := Try.prog) w 28 5 (some ad) n c 0 0 Try.underlying28
    have hown := World.ownsRow_made (e := 5) (size := 1) w #[] 0 (Nat.le_refl _) (by simp [maxLen]) rfl
    go_enter Try.func29, Try.ntmps29
    go_wp2_with (at_builtin; refine wpList_append_any _ rfl (.tmp 5) (.tmp 6) 28 rfl w.heap.size 5 i0 (.int .u8 0) 1 1 Try.underlying28 hi hz0 hz1 hz2 rfl (by omega) _ _ _ rfl hown B (some ad) n c _ rfl (hr.alloc hB _) (u8s_one l) (by simp only [maxLen]; omega) (by omega) (by simp) ?_)
    intro v2 w2 hown2 hg2 hat2
    go_wp2_with fail
    go_ret
    exact ⟨v2, rfl, hown2, ((Tch.refl _ _).alloc _).grown hg2 (fun k hk => .inr (hown.lt k hk).1)⟩

set_option maxHeartbeats 400000 in
theorem own_any (no frm to : Int) (n c B : Nat) (A : Option Addr) (l : List Int) (w : World) (hB : B ≤ w.heap.size) (hr : Reads w B 1 A n (u8s l)) (hn : n ≤ 140737488351232) :
    Calls Try.prog 24 #[.agg #[.int .i64 no, .int .i64 frm, .int .i64 to, .slice A n c]] w fun e w' => ∃ v, e = .returned (.agg #[.int .i64 no, .int .i64 frm, .int .i64 to, v]) ∧ w'.ownsRow w.heap.size 5 1 v n (u8s l) ∧ Tch None_ w w' := by
  go_enter Try.func24, Try.ntmps24
  go_wp2_with fail
  have hb0 := (Blk.new w 31 #[.int .i64 no, .int .i64 frm, .int .i64 to, .slice A n c]).alloc (.cells #[.int .i64 0, .int .i64 0, .int .i64 0, .slice none 0 0] 31)
  have hb1 := Blk.new (w.alloc (.cells #[.int .i64 no, .int .i64 frm, .int .i64 to, .slice A n c] 31)) 31 #[.int .i64 0, .int .i64 0, .int .i64 0, .slice none 0 0]
  have ht0 : Tch None_ w ((w.alloc (.cells #[.int .i64 no, .int .i64 frm, .int .i64 to, .slice A n c] 31)).alloc (.cells #[.int .i64 0, .int .i64 0, .int .i64 0, .slice none 0 0] 31)) := ((Tch.refl _ _).alloc _).alloc _
  rw [show (w.alloc (.cells #[.int .i64 no, .int .i64 frm, .int .i64 to, .slice A n c] 31)).heap.size = w.heap.size + 1 from by simp] at hb1
  refine (clone_any n c B A l _ (Nat.le_trans hB ht0.size) (hr.tch ht0 hB (fun _ _ h => h)) hn).mono ?_
  rintro e w1 ⟨v, rfl, hown, ht⟩
  have hbb0 := hb0.keep ht
  have hbb1 := hb1.keep ht
  have htt := ht0.then ht
  have hown' := own_base hown ht0.size
  obtain ⟨A', c', rfl, _, _⟩ := own_form hown'
  have q0 := hbb0.cell 0
  have q1 := hbb0.cell 1
  have q2 := hbb0.cell 2
  have q3 := hbb0.cell 3
  have z3 := hbb0.frozen 3
  have r0 := hbb1.cell 0
  have r1 := hbb1.cell 1
  have r2 := hbb1.cell 2
  have r3 := hbb1.cell 3
  have y0 := hbb1.frozen 0
  have y1 := hbb1.frozen 1
  have y2 := hbb1.frozen 2
  have y3 := hbb1.frozen 3
  have l0 := hbb0.lt
  have l1 := hbb1.lt
  simp at q0 q1 q2 q3 r0 r1 r2 r3
  have hge : ∀ k, (Value.slice A' n c').ownBlock = some k → w.heap.size + 2 ≤ k := fun k hk => by have := (hown.lt k hk).1; simpa using this
  clear hb0 hb1 ht0 ht hr hown
  go_wp2_with fail
  have T1 : Tch (fun k => k = w.heap.size ∨ k = w.heap.size + 1) w1 (((((w1.setCell ⟨w.heap.size, 3, none⟩ (.slice A' n c')).setCell ⟨w.heap.size + 1, 0, none⟩ (.int .i64 no)).setCell ⟨w.heap.size + 1, 1, none⟩ (.int .i64 frm)).setCell ⟨w.heap.size + 1, 2, none⟩ (.int .i64 to)).setCell ⟨w.heap.size + 1, 3, none⟩ (.slice A' n c')) :=
    (((((Tch.refl _ _).setCell (p := ⟨w.heap.size, 3, none⟩) (.inl (.inl rfl)) _).setCell (p := ⟨w.heap.size + 1, 0, none⟩) (.inl (.inr rfl)) _).setCell (p := ⟨w.heap.size + 1, 1, none⟩) (.inl (.inr rfl)) _).setCell (p := ⟨w.heap.size + 1, 2, none⟩) (.inl (.inr rfl)) _).setCell (p := ⟨w.heap.size + 1, 3, none⟩) (.inl (.inr rfl)) _
  refine bodyPost_ret (v := .agg #[.int .i64 no, .int .i64 frm, .int .i64 to, .slice A' n c']) (by simp [results, Try.results24, go_sem, r0, r1, r2, r3]) rfl ⟨_, rfl, T1.row hown' (fun k hk e => ?_), htt.trans T1 (fun i hi e => ?_)⟩
  · have := hge k hk
    omega
  · omega

/-- The bag's New. -/
theorem New_any (w : World) : Calls Try.prog 7 #[] w fun e w' => ∃ g mb, e = .returned (.pointer (some ⟨g, 0, none⟩)) ∧ (∀ base, BagAt w' base g mb [] 0) ∧ w.heap.size ≤ g ∧ w.heap.size ≤ mb ∧ Tch None_ w w' := by
  have hmm := @run_makeMap Try.prog
  go_enter Try.func7, Try.ntmps7
  go_wp2_with fail
  go_ret
  have hb := Blk.new (w.alloc (.map #[] 0)) 57 #[.map (some w.heap.size), .int .i64 0]
  exact ⟨w.heap.size + 1, w.heap.size, rfl, fun base => ⟨by simpa using hb, by simpa using (MapAt.made w).keep ((Tch.refl _ _).alloc _), by simp, by simp, by simp, by simp [blks], by simp⟩, by omega, Nat.le_refl _, ((Tch.refl _ _).alloc _).alloc _⟩

set_option maxHeartbeats 1000000 in
theorem put_any (g mb base last : Nat) (ps : List Par) (no frm to : Int) (n c B : Nat) (A : Option Addr) (l : List Int) (w : World) (hg : BagAt w base g mb ps last) (hl : last < 4611686018427387904) (hB : B ≤ w.heap.size) (hbase : base ≤ w.heap.size)
    (hr : Reads w B 1 A n (u8s l)) (hA : 0 < n → ∀ ad, A = some ad → ad.block ≠ g ∧ ad.block ≠ mb) (hn : n ≤ 140737488351232) :
    Calls Try.prog 17 #[.pointer (some ⟨g, 0, none⟩), .agg #[.int .i64 no, .int .i64 frm, .int .i64 to, .slice A n c]] w fun e w' => ∃ v, e = .returned (.int .i64 (last + 1 : Nat)) ∧
      BagAt w' base g mb (ps ++ [⟨(last + 1 : Nat), frm, to, l, v⟩]) (last + 1) ∧ (∀ k, v.ownBlock = some k → w.heap.size ≤ k) ∧ Tch (fun k => k = g ∨ k = mb) w w' := by
  have c1 := hg.box.cell 1
  have z1 := hg.box.frozen 1
  have lg := hg.box.lt
  simp at c1
  go_enter Try.func17, Try.ntmps17
  go_wp2_with fail
  have htW : Tch (fun k => k = g ∨ k = mb) w ((w.setCell ⟨g, 1, none⟩ (.int .i64 ((last : Int) + 1))).alloc (.cells #[.int .i64 ((last : Int) + 1), .int .i64 frm, .int .i64 to, .slice A n c] 31)) :=
    ((Tch.refl _ _).setCell (p := ⟨g, 1, none⟩) (.inl (.inl rfl)) _).alloc _
  have htG : Tch (fun k => k = g) w ((w.setCell ⟨g, 1, none⟩ (.int .i64 ((last : Int) + 1))).alloc (.cells #[.int .i64 ((last : Int) + 1), .int .i64 frm, .int .i64 to, .slice A n c] 31)) :=
    ((Tch.refl (fun k => k = g) w).setCell (p := ⟨g, 1, none⟩) (.inl rfl) _).alloc _
  have hbx := (hg.box.set_ 1 (.int .i64 ((last : Int) + 1))).alloc (.cells #[.int .i64 ((last : Int) + 1), .int .i64 frm, .int .i64 to, .slice A n c] 31)
  have hbp := Blk.new (w.setCell ⟨g, 1, none⟩ (.int .i64 ((last : Int) + 1))) 31 #[.int .i64 ((last : Int) + 1), .int .i64 frm, .int .i64 to, .slice A n c]
  rw [show (w.setCell ⟨g, 1, none⟩ (.int .i64 ((last : Int) + 1))).heap.size = w.heap.size from by simp] at hbp
  generalize (w.setCell ⟨g, 1, none⟩ (.int .i64 ((last : Int) + 1))).alloc (.cells #[.int .i64 ((last : Int) + 1), .int .i64 frm, .int .i64 to, .slice A n c] 31) = W at *
  have hmap := hg.map.tch htG (fun e => hg.ne e.symm)
  have hrW : Reads W B 1 A n (u8s l) := by
    rcases Nat.eq_zero_or_pos n with h0 | h0
    · exact ⟨hr.1, fun h => absurd h (by omega)⟩
    · exact hr.at_tch htW hB (fun ad e h => by have := hA h0 ad e; omega)
  have hrows : ∀ p ∈ ps, W.ownsRow base 5 1 p.v p.bs.length (u8s p.bs) := fun p hp => htG.row (hg.rows p hp) (fun k hk => (hg.blk_ne k (List.mem_filterMap.2 ⟨p, hp, hk⟩)).1)
  have c0 := hbx.cell 0
  have q0 := hbp.cell 0
  have q1 := hbp.cell 1
  have q2 := hbp.cell 2
  have q3 := hbp.cell 3
  have y0 := hbx.lt
  have y1 := hbp.lt
  simp at c0 q0 q1 q2 q3
  have hno : ∀ p ∈ ps.map Par.ent, p.1 ≠ .int .i64 ((last : Int) + 1) := by
    intro p hp e
    obtain ⟨q, hq, rfl⟩ := List.mem_map.1 hp
    simp only [Par.ent] at e
    injection e with _ e
    have := (hg.bd q hq).2
    omega
  have HPUT := Lib.hid (fun (w1 : World) (v : Value) (ht1 : Tch None_ W w1) => (hmap.keep ht1).put_new lawK Try.underlying55 (keyI ((last : Int) + 1) (by omega) (by omega)) (val := .agg #[.int .i64 ((last : Int) + 1), .int .i64 frm, .int .i64 to, v]) hno)
  have HOWN := Lib.hid (own_any ((last : Int) + 1) frm to n c B A l W.drew (Nat.le_trans hB htW.size) hrW.drew hn)
  have hne2 : w.heap.size ≠ mb := by have := hg.map.lt; omega
  have HS : Hid (∀ w', Tch (fun k => k = mb) W w' → w'.cell? ⟨g, 0, none⟩ = some (.map (some mb)) ∧ w'.cell? ⟨w.heap.size, 0, none⟩ = some (.int .i64 ((last : Int) + 1)) ∧ w'.cell? ⟨w.heap.size, 1, none⟩ = some (.int .i64 frm) ∧ w'.cell? ⟨w.heap.size, 2, none⟩ = some (.int .i64 to) ∧
      w'.cell? ⟨w.heap.size, 3, none⟩ = some (.slice A n c) ∧ Tch (fun k => k = mb) W w') :=
    fun w' h => ⟨(h.cell y0 hg.ne).trans c0, (h.cell y1 hne2).trans q0, (h.cell y1 hne2).trans q1, (h.cell y1 hne2).trans q2, (h.cell y1 hne2).trans q3, h⟩
  clear c1 z1 hno
  go_region_held3 (fun w' => w'.cell? ⟨g, 0, none⟩ = some (.map (some mb)) ∧ w'.cell? ⟨w.heap.size, 0, none⟩ = some (.int .i64 ((last : Int) + 1)) ∧ w'.cell? ⟨w.heap.size, 1, none⟩ = some (.int .i64 frm) ∧ w'.cell? ⟨w.heap.size, 2, none⟩ = some (.int .i64 to) ∧
      w'.cell? ⟨w.heap.size, 3, none⟩ = some (.slice A n c) ∧ Tch (fun k => k = mb) W w')
    ((refine HS.out _ ?_; first | assumption | exact (Tch.refl _ _).drew))
    (first
      | (go_at_call 24
         refine HOWN.out.mono ?_
         rintro e w1 ⟨v, rfl, hown, ht⟩
         have ht1 : Tch None_ W w1 := (Tch.refl _ _).drew.then ht
         obtain ⟨w2, hrun, hmap2, ht2, hsz2⟩ := HPUT.out w1 v ht1
         have ht1' : Tch (fun k => k = mb) W w1 := ht1.any
         have ht3 : Tch (fun k => k = mb) W w2 := ht1'.then ht2))
  obtain ⟨k0, k1, k2, k3, k4, _⟩ := HS.out w2 ht3
  clear c0 q0 q1 q2 q3
  go_wp2_with fail
  go_ret
  have hWg : Blk W g 57 #[.map (some mb), .int .i64 (last + 1 : Nat)] := by simpa using hbx
  refine ⟨v, rfl, ⟨hWg.tch ht3 hg.ne, ?_, ?_, ?_, ?_, ?_, ?_⟩, ?_, htW.trans ht3 (fun i _ e => .inr e)⟩
  · simpa [Par.ent, Par.val] using hmap2
  · intro p hp
    rcases List.mem_append.1 hp with hp | hp
    · exact ht3.row (hrows p hp) (fun k hk => (hg.blk_ne k (List.mem_filterMap.2 ⟨p, hp, hk⟩)).2)
    · simp at hp
      subst hp
      have hl' : l.length = n := by have := hr.1; simpa using this
      simp only [hl']
      refine ht2.row (own_base hown (Nat.le_trans hbase htW.size)) (fun k hk e => ?_)
      have := (hown.lt k hk).1
      have h3 := hmap.lt
      subst e
      exact absurd this (by show ¬ W.heap.size ≤ k; omega)
  · rw [List.pairwise_append]
    refine ⟨hg.up, by simp, fun p hp q hq => ?_⟩
    simp at hq
    subst hq
    have := (hg.bd p hp).2
    show p.no < ((last + 1 : Nat) : Int)
    omega
  · intro p hp
    rcases List.mem_append.1 hp with hp | hp
    · have := hg.bd p hp
      omega
    · simp at hp
      subst hp
      exact ⟨by show (1 : Int) ≤ ((last + 1 : Nat) : Int); omega, Int.le_refl _⟩
  · simp only [blks, List.filterMap_append]
    rw [List.nodup_append]
    refine ⟨hg.nd, ?_, ?_⟩
    · cases hv : v.ownBlock <;> simp [hv]
    · intro a ha b hb e
      subst e
      have h1 := (hg.blk_lt a ha).2
      simp only [List.filterMap_cons, List.filterMap_nil] at hb
      cases hv : v.ownBlock with
      | none => simp [hv] at hb
      | some k =>
        simp [hv] at hb
        have h2 := (hown.lt k hv).1
        have h3 := htW.size
        have : W.heap.size ≤ k := h2
        omega
  · intro p hp
    rcases List.mem_append.1 hp with hp | hp
    · exact hg.sz p hp
    · simp at hp
      subst hp
      have hl' : l.length = n := by have := hr.1; simpa using this
      show l.length ≤ _
      omega
  · intro k hk
    have h2 : W.heap.size ≤ k := (hown.lt k hk).1
    have h3 := htW.size
    omega

theorem Send_any (g mb base last : Nat) (ps : List Par) (frm to : Int) (n c B : Nat) (A : Option Addr) (l : List Int) (w : World) (hg : BagAt w base g mb ps last) (hl : last < 4611686018427387904) (hB : B ≤ w.heap.size) (hbase : base ≤ w.heap.size)
    (hr : Reads w B 1 A n (u8s l)) (hA : 0 < n → ∀ ad, A = some ad → ad.block ≠ g ∧ ad.block ≠ mb) (hn : n ≤ 140737488351232) :
    Calls Try.prog 8 #[.pointer (some ⟨g, 0, none⟩), .int .i64 frm, .int .i64 to, .slice A n c] w fun e w' => ∃ v, e = .returned (.int .i64 (last + 1 : Nat)) ∧
      BagAt w' base g mb (ps ++ [⟨(last + 1 : Nat), frm, to, l, v⟩]) (last + 1) ∧ (∀ k, v.ownBlock = some k → w.heap.size ≤ k) ∧ Tch (fun k => k = g ∨ k = mb) w w' := by
  go_enter Try.func8, Try.ntmps8
  go_wp2_with fail
  refine (put_any g mb base last ps 0 frm to n c B A l w hg hl hB hbase hr hA hn).mono ?_
  rintro e w1 ⟨v, rfl, h⟩
  go_wp2_with fail
  go_ret
  exact ⟨v, rfl, h⟩

set_option maxHeartbeats 1000000 in
theorem Deliver_hit (g mb base last : Nat) (L1 L2 : List Par) (p : Par) (w : World) (hg : BagAt w base g mb (L1 ++ p :: L2) last) (hl : last < 4611686018427387904) :
    Calls Try.prog 10 #[.pointer (some ⟨g, 0, none⟩), .int .i64 p.no] w fun e w' => e = .returned (.tuple #[p.val, .int .i64 0]) ∧ BagAt w' base g mb (L1 ++ L2) last ∧ Tch (fun k => k = mb) w w' := by
  have hrow := hg.rows p (by simp)
  have hbd := hg.bd p (by simp)
  have c0 := hg.box.cell 0
  have lg := hg.box.lt
  simp at c0
  obtain ⟨no, frm, to, bs, v⟩ := p
  obtain ⟨A, c, hv, _, _⟩ := own_form hrow
  simp only at hv hbd
  subst hv
  have hlook := ((hg.map.keep ((Tch.refl None_ w).alloc (.cells #[.int .i64 0, .int .i64 0, .int .i64 0, .slice none 0 0] 31))).look true lawK Try.underlying55 (zero31 _) (keyI no (by omega) (by omega))).2 (Par.val ⟨no, frm, to, bs, .slice A bs.length c⟩) (by simp [Par.ent])
  simp only [if_true, Par.val] at hlook
  have W1 : Tch None_ w ((w.alloc (.cells #[.int .i64 0, .int .i64 0, .int .i64 0, .slice none 0 0] 31)).alloc (.cells #[.int .i64 no, .int .i64 frm, .int .i64 to, .slice A bs.length c] 31)) := ((Tch.refl _ _).alloc _).alloc _
  have W2 := (Blk.new w 31 #[.int .i64 0, .int .i64 0, .int .i64 0, .slice none 0 0]).alloc (.cells #[.int .i64 no, .int .i64 frm, .int .i64 to, .slice A bs.length c] 31)
  have W3 := Blk.new (w.alloc (.cells #[.int .i64 0, .int .i64 0, .int .i64 0, .slice none 0 0] 31)) 31 #[.int .i64 no, .int .i64 frm, .int .i64 to, .slice A bs.length c]
  rw [show (w.alloc (.cells #[.int .i64 0, .int .i64 0, .int .i64 0, .slice none 0 0] 31)).heap.size = w.heap.size + 1 from by simp] at W3
  obtain ⟨w2, hdel, hm2, ht2, hs2⟩ := (hg.map.keep W1).del_hit lawK Try.underlying55 (keyI no (by omega) (by omega)) 0 (L1 := L1.map Par.ent) (L2 := L2.map Par.ent) (v := Par.val ⟨no, frm, to, bs, .slice A bs.length c⟩) (by simp [Par.ent])
  have lm := hg.map.lt
  have hbb0 := W2.tch ht2 (by omega)
  have hbb1 := W3.tch ht2 (by omega)
  have q0 := hbb0.cell 0
  have q1 := hbb0.cell 1
  have q2 := hbb0.cell 2
  have q3 := hbb0.cell 3
  have y0 := hbb0.frozen 0
  have y1 := hbb0.frozen 1
  have y2 := hbb0.frozen 2
  have y3 := hbb0.frozen 3
  have r0 := hbb1.cell 0
  have r1 := hbb1.cell 1
  have r2 := hbb1.cell 2
  have r3 := hbb1.cell 3
  have l0 := hbb0.lt
  have l1 := hbb1.lt
  simp at q0 q1 q2 q3 r0 r1 r2 r3
  have hT : Tch (fun k => k = mb) w w2 := W1.any.then ht2
  simp only [Par.val]
  clear W1 W2 W3 hrow hs2 hbb1
  go_enter Try.func10, Try.ntmps10
  go_wp2_with (at_lookup; refine wpList_lookup_run _ rfl _ _ 55 true rfl _ _ _ rfl rfl hlook ?_)
  have T1 : Tch (fun k => k = w.heap.size) w2 ((((w2.setCell ⟨w.heap.size, 0, none⟩ (.int .i64 no)).setCell ⟨w.heap.size, 1, none⟩ (.int .i64 frm)).setCell ⟨w.heap.size, 2, none⟩ (.int .i64 to)).setCell ⟨w.heap.size, 3, none⟩ (.slice A bs.length c)) :=
    ((((Tch.refl (fun k => k = w.heap.size) w2).setCell (p := ⟨w.heap.size, 0, none⟩) (.inl rfl) _).setCell (p := ⟨w.heap.size, 1, none⟩) (.inl rfl) _).setCell (p := ⟨w.heap.size, 2, none⟩) (.inl rfl) _).setCell (p := ⟨w.heap.size, 3, none⟩) (.inl rfl) _
  have hT2 := hT.trans T1 (fun i hi e => by omega)
  refine bodyPost_ret (v := .tuple #[.agg #[.int .i64 no, .int .i64 frm, .int .i64 to, .slice A bs.length c], .int .i64 0]) (by simp [results, Try.results10, go_sem, q0, q1, q2, q3]) rfl ⟨rfl, ⟨hg.box.tch hT2 hg.ne, ?_, ?_, ?_, ?_, ?_, ?_⟩, hT2⟩
  · rw [List.map_append]; exact hm2.tch T1 (by omega)
  · intro p hp
    have hp' : p ∈ L1 ++ ⟨no, frm, to, bs, .slice A bs.length c⟩ :: L2 := by
      rcases List.mem_append.1 hp with h | h
      · exact List.mem_append.2 (.inl h)
      · exact List.mem_append.2 (.inr (List.mem_cons_of_mem _ h))
    exact hT2.row (hg.rows p hp') (fun k hk => (hg.blk_ne k (List.mem_filterMap.2 ⟨p, hp', hk⟩)).2)
  · exact hg.up.sublist (List.Sublist.append_left (List.sublist_cons_self _ _) _)
  · intro p hp
    refine hg.bd p ?_
    rcases List.mem_append.1 hp with h | h
    · exact List.mem_append.2 (.inl h)
    · exact List.mem_append.2 (.inr (List.mem_cons_of_mem _ h))
  · exact hg.nd.sublist (List.Sublist.filterMap _ (List.Sublist.append_left (List.sublist_cons_self _ _) _))
  · intro p hp
    refine hg.sz p ?_
    rcases List.mem_append.1 hp with h | h
    · exact List.mem_append.2 (.inl h)
    · exact List.mem_append.2 (.inr (List.mem_cons_of_mem _ h))

theorem Deliver_miss (g mb base last : Nat) (ps : List Par) (no : Int) (w : World) (hg : BagAt w base g mb ps last) (h1 : -9223372036854775808 ≤ no) (h2 : no ≤ 9223372036854775807) (hno : ∀ p ∈ ps, p.no ≠ no) :
    Calls Try.prog 10 #[.pointer (some ⟨g, 0, none⟩), .int .i64 no] w fun e w' => e = .returned (.tuple #[.agg #[.int .i64 0, .int .i64 0, .int .i64 0, .slice none 0 0], .int .i64 170]) ∧ Tch None_ w w' := by
  have c0 := hg.box.cell 0
  have lg := hg.box.lt
  simp at c0
  have hlook := ((hg.map.keep ((Tch.refl None_ w).alloc (.cells #[.int .i64 0, .int .i64 0, .int .i64 0, .slice none 0 0] 31))).look true lawK Try.underlying55 (zero31 _) (keyI no h1 h2)).1 (by
    intro p hp e
    obtain ⟨q, hq, rfl⟩ := List.mem_map.1 hp
    simp only [Par.ent] at e
    injection e with _ e
    exact hno q hq e)
  simp only [if_true] at hlook
  go_enter Try.func10, Try.ntmps10
  go_wp2_with (at_lookup; refine wpList_lookup_run _ rfl _ _ 55 true rfl _ _ _ rfl rfl hlook ?_)
  exact bodyPost_ret (v := .tuple #[.agg #[.int .i64 0, .int .i64 0, .int .i64 0, .slice none 0 0], .int .i64 170]) (by simp [results, Try.results10, go_sem]) rfl ⟨rfl, ((Tch.refl _ _).alloc _).alloc _⟩

theorem Len_any (g mb base last : Nat) (ps : List Par) (w : World) (hg : BagAt w base g mb ps last) :
    Calls Try.prog 11 #[.pointer (some ⟨g, 0, none⟩)] w fun e w' => e = .returned (.int .i64 ps.length) ∧ w = w' := by
  have c0 := hg.box.cell 0
  simp at c0
  have hl := hg.map.len Try.underlying55 3
  rw [List.length_map] at hl
  go_enter Try.func11, Try.ntmps11
  go_wp2_with fail
  go_ret
  exact ⟨rfl, rfl⟩
end Go.Proofs.Ytpjlfmaebkjojaa
