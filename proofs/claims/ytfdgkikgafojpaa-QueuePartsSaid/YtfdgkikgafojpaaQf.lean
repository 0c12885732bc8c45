/-
  No statement is proved here: what pile's Len, Push and Pop come to (walks of the code).
-/
import Derived.Test.YtfdgkikgafojpaaQe
import Derived.Deep.RegionLaw
namespace Go.Proofs.Ytfdgkikgafojpaa
open Go.RowKit Go.Maps

theorem infoEnt : (Try.prog.info? 33).map (fun i => (i.zero, i.size, i.bytes)) = some (some (.agg #[.int .i64 0, .int .i64 0, .int .i64 0, .int .i64 0, .int .i64 0, .int .i64 0, .int .i64 0, .int .i64 0]), 8, 64) := by kernel_rfl
/-- Block g is a queue whose map is mb; its pile's value is v, which reads as l. -/
structure Pile (w : World) (base g mb : Nat) (v : Value) (l : List Ent) : Prop where
  box : Blk w g 60 #[v, .map (some mb)]
  row : w.ownsRow base 33 8 v l.length (l.flatMap Ent.cells)
theorem own_ne_blk {w : World} {base size n g : Nat} {t e : TypeId} {v : Value} {xs : List Value} {cs : Array Value} (h : w.ownsRow base e size v n xs) (hb : Blk w g t cs) (hne : e ≠ t) : ∀ k, v.ownBlock = some k → k ≠ g := by
  intro k hk
  rcases h.2 with ⟨rfl, _⟩ | ⟨g', cap, cur, rfl, _, hh, _⟩
  · simp [Value.ownBlock] at hk
  · simp [Value.ownBlock] at hk
    subst hk
    exact Blk.ne_ (t := e) (t' := t) hh hb hne
section
variable {w w' : World} {base g mb : Nat} {v : Value} {l : List Ent}
theorem Pile.ne (h : Pile w base g mb v l) : ∀ k, v.ownBlock = some k → k ≠ g := own_ne_blk h.row h.box (by decide)
theorem Pile.tch {S : Nat → Prop} (h : Pile w base g mb v l) (ht : Tch S w w') (h1 : ¬ S g) (h2 : ∀ k, v.ownBlock = some k → ¬ S k) : Pile w' base g mb v l := ⟨h.box.tch ht h1, ht.row h.row h2⟩
theorem Pile.keep (h : Pile w base g mb v l) (ht : Tch None_ w w') : Pile w' base g mb v l := h.tch ht (fun h => h) (fun _ _ h => h)
end
theorem own_take {w : World} {base size n m c : Nat} {e : TypeId} {A : Option Addr} {xs : List Value} (h : w.ownsRow base e size (.slice A n c) n xs) (hm : m ≤ n) : w.ownsRow base e size (.slice A m c) m (xs.take (m * size)) := by
  have hmn : m * size ≤ n * size := Nat.mul_le_mul_right _ hm
  refine ⟨by rw [List.length_take, h.1]; omega, ?_⟩
  rcases h.2 with ⟨e1, h0⟩ | ⟨g, cap, cur, e1, hb, hh, h1, h2, h3, h4⟩
  · injection e1 with a1 a2 a3
    subst a1 a2 a3
    obtain rfl : m = 0 := by omega
    exact .inl ⟨rfl, by simp⟩
  · injection e1 with a1 a2 a3
    subst a1 a3
    refine .inr ⟨g, c, cur, rfl, hb, hh, by omega, h2, h3, ?_⟩
    rw [← h4, List.take_take, Nat.min_eq_left hmn]
theorem flat_take (l : List Ent) (m : Nat) : (l.flatMap Ent.cells).take (m * 8) = (l.take m).flatMap Ent.cells := by
  induction l generalizing m with
  | nil => simp
  | cons a l ih =>
    cases m with
    | zero => simp
    | succ m =>
      rw [List.flatMap_cons, List.take_succ_cons, List.flatMap_cons, List.take_append, ← ih m, Ent.eight, show (m + 1) * 8 - 8 = m * 8 from by omega, List.take_of_length_le (by rw [Ent.eight]; omega)]

theorem PLen_any (n c : Nat) (A : Option Addr) (w : World) : Calls Try.prog 74 #[.slice A n c] w fun e w' => e = .returned (.int .i64 n) ∧ w = w' := by
  go_enter Try.func74, Try.ntmps74
  go_wp2
  go_ret
  exact ⟨rfl, rfl⟩

theorem ta_any (x : Value) (w : World) : (Instr.typeAssert (.iface 33 x) 20 33 false).run Try.prog w = .ok x w := by
  simp [Instr.typeAssert, run_underlying Try.underlying33]

set_option maxRecDepth 100000 in
set_option maxHeartbeats 1000000 in
theorem PPush_any (base g mb : Nat) (v : Value) (l : List Ent) (e : Ent) (w : World) (h : Pile w base g mb v l) (hl : l.length < 4096) (hbase : base ≤ w.heap.size) :
    Calls Try.prog 78 #[.pointer (some ⟨g, 0, none⟩), .iface 33 e.val] w fun x w' => ∃ v', x = .returned (.tuple #[]) ∧ Pile w' base g mb v' (l ++ [e]) ∧ Tch (fun k => k = g ∨ v.ownBlock = some k) w w' ∧ (v'.ownBlock = v.ownBlock ∨ ∃ k, v'.ownBlock = some k ∧ w.heap.size ≤ k) := by
  obtain ⟨i0, hi, hz0, hz1, hz2⟩ := info_parts infoEnt
  have c0 := h.box.cell 0
  have f0 := h.box.frozen 0
  have lg := h.box.lt
  simp at c0
  have HP := Lib.hid h
  have hne := h.ne
  have hrow := h.row
  have hlt := fun k hk => (h.row.lt k hk)
  obtain ⟨A, c, rfl, _, _⟩ := own_form h.row
  have hown := (hrow.alloc (.cells #[.int .i64 e.fr, .int .i64 e.pe, .int .i64 e.sq, .int .i64 e.vb, .int .i64 e.a, .int .i64 e.b, .int .i64 e.c, .int .i64 e.ms] 33)).drew
  have HN := Lib.hid hne
  have hng : (Value.slice A l.length c).ownBlock ≠ some g := fun hk => hne g hk rfl
  have hm : l.length + 1 ≤ maxLen := by simp only [maxLen]; omega
  have hb64 : (l.length + 1) * 64 ≤ 140737488355328 := by omega
  clear h hne hlt
  have hta := ta_any
  unfold Ent.val
  go_enter Try.func78, Try.ntmps78
  go_wp2_with fail
  go_region_law
    ((refine step_append_lies _ (by rfl) _ _ _ (by rfl) base 33 i0 _ 8 64 Try.underlying58 hi hz0 hz1 hz2 rfl (by omega) _ _ _ (by rfl) hown
        ⟨w.heap.size, 0, none⟩ 1 1 [.int .i64 e.fr, .int .i64 e.pe, .int .i64 e.sq, .int .i64 e.vb, .int .i64 e.a, .int .i64 e.b, .int .i64 e.c, .int .i64 e.ms] (by rfl) (by rfl) (World.news_of_block (cs := #[.int .i64 e.fr, .int .i64 e.pe, .int .i64 e.sq, .int .i64 e.vb, .int .i64 e.a, .int .i64 e.b, .int .i64 e.c, .int .i64 e.ms]) (t := 33) (fr := (0, 0)) (heap_alloc_new w _)) (by simp [Value.oneCell'])
        (by omega) hm hb64 (by simp; omega) (w.heap.size + 1) (by simp) ?_; intro gg cap w1 hown1 hgrow hat hlt; have hc1 := hgrow.cell_far ⟨g, 0, none⟩ (by simp; omega) (Ne.symm hng); have hf1 := hgrow.frozen_far ⟨g, 0, none⟩ (by simp; omega) (Ne.symm hng); have HG1 := Lib.hid hgrow; clear hgrow))
  all_goals
    clear hta
    go_wp2_with fail
    go_end0
    have hgg : gg ≠ g := by
      rintro rfl
      rcases hat with h | h
      · exact hng h
      · omega
    have T1 : Tch (fun k => k = g) w1 (w1.setCell ⟨g, 0, none⟩ (.slice (some ⟨gg, 0, none⟩) (l.length + 1) cap)) := (Tch.refl (fun k => k = g) w1).setCell (p := ⟨g, 0, none⟩) (.inl rfl) _
    have T0 : Tch (fun k => k = g ∨ (Value.slice A l.length c).ownBlock = some k) w w1 := (((Tch.refl _ w).alloc _).drew).grown HG1.out (fun k hk => .inl (.inr hk))
    have hbx : Blk w1 g 60 #[.slice A l.length c, .map (some mb)] := (HP.out.box.alloc _).drew.grown HG1.out (fun h => hng h.symm)
    refine ⟨_, rfl, ⟨hbx.set_ 0 _, ?_⟩, T0.trans T1 (fun i _ h => .inl h), ?_⟩
    · refine T1.row ?_ (fun k hk h => hgg (by simpa [Value.ownBlock, h] using hk))
      simpa [Ent.cells] using hown1
    · rcases hat with h | h
      · exact .inl (by rw [h]; rfl)
      · exact .inr ⟨gg, rfl, by omega⟩
end Go.Proofs.Ytfdgkikgafojpaa
