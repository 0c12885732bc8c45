/-
  No statement is proved here: the program's Gain (a walk of the code).
-/
import Derived.Test.YtkamhbfgjmfijaaSf
namespace Go.Proofs.Ytkamhbfgjmfijaa
open Go.RowKit

def gainP (s : Sc) (n : Int) : Sc × Int := if s.fine then (if n < 0 ∨ 100 < n then (Sc.zero, 1) else ({ s with p := clampI (s.p + n) }, 0)) else (Sc.zero, 120)
/-- One that hit: its score behind it. -/
def byP (s : Sc) (pw : Int) (out : Bool) : Sc := if out then ⟨clampI (s.p + pw + 10 + min s.k 5), clampI (s.h + 1), s.o, clampI (s.k + 1)⟩ else ⟨clampI (s.p + pw), clampI (s.h + 1), s.o, s.k⟩
def whoP (s : Sc) (out : Bool) : Sc := if out then ⟨clampI (s.p - 2), s.h, clampI (s.o + 1), 0⟩ else s
def hitP (by_ who : Sc) (pw : Int) (out : Bool) : Sc × Sc × Int := if by_.fine ∧ who.fine then (if pw < 1 ∨ 3 < pw then (Sc.zero, Sc.zero, 1) else (byP by_ pw out, whoP who out, 0)) else (Sc.zero, Sc.zero, 120)
/-- A score's block. -/
def Sc.arr (s : Sc) : Array Value := #[.int .i64 s.p, .int .i64 s.h, .int .i64 s.o, .int .i64 s.k]
def put4 (w : World) (b : Nat) (s : Sc) : World := (((w.setCell ⟨b, 0, none⟩ (.int .i64 s.p)).setCell ⟨b, 1, none⟩ (.int .i64 s.h)).setCell ⟨b, 2, none⟩ (.int .i64 s.o)).setCell ⟨b, 3, none⟩ (.int .i64 s.k)
theorem put4_blk {w : World} {b : Nat} {x : Sc} (h : Blk w b 23 x.arr) (s : Sc) : Blk (put4 w b s) b 23 s.arr := by
  have := (((h.set_ 0 (.int .i64 s.p)).set_ 1 (.int .i64 s.h)).set_ 2 (.int .i64 s.o)).set_ 3 (.int .i64 s.k)
  simpa [Sc.arr, put4] using this
theorem put4_tch {w0 w : World} {b : Nat} (h : Tch None_ w0 w) (hb : w0.heap.size ≤ b) (s : Sc) : Tch None_ w0 (put4 w b s) :=
  (((h.setCell (p := ⟨b, 0, none⟩) (.inr hb) _).setCell (p := ⟨b, 1, none⟩) (.inr hb) _).setCell (p := ⟨b, 2, none⟩) (.inr hb) _).setCell (p := ⟨b, 3, none⟩) (.inr hb) _
theorem put4_far {w : World} {b b' : Nat} {t : TypeId} {cs : Array Value} (h : Blk w b' t cs) (hne : b' ≠ b) (s : Sc) : Blk (put4 w b s) b' t cs :=
  (((h.far (p := ⟨b, 0, none⟩) hne _).far (p := ⟨b, 1, none⟩) hne _).far (p := ⟨b, 2, none⟩) hne _).far (p := ⟨b, 3, none⟩) hne _
theorem arr_cells {w : World} {b : Nat} {s : Sc} (h : Blk w b 23 s.arr) : (w.cell? ⟨b, 0, none⟩ = some (.int .i64 s.p) ∧ w.cell? ⟨b, 1, none⟩ = some (.int .i64 s.h) ∧ w.cell? ⟨b, 2, none⟩ = some (.int .i64 s.o) ∧ w.cell? ⟨b, 3, none⟩ = some (.int .i64 s.k)) ∧
    (w.frozen? ⟨b, 0, none⟩ = false ∧ w.frozen? ⟨b, 1, none⟩ = false ∧ w.frozen? ⟨b, 2, none⟩ = false ∧ w.frozen? ⟨b, 3, none⟩ = false) :=
  ⟨⟨h.cell 0, h.cell 1, h.cell 2, h.cell 3⟩, h.frozen 0, h.frozen 1, h.frozen 2, h.frozen 3⟩
theorem loadVar_sc {W : World} {b : Nat} {s : Sc} (hb : Blk W b 23 s.arr) : (loadVar 23 ⟨b, 0, none⟩).run Try.prog W = .ok s.val W := by
  obtain ⟨⟨c0, c1, c2, c3⟩, _⟩ := arr_cells hb
  simp [go_sem, Sc.val, c0, c1, c2, c3]
theorem res1 {fn : Func} {p u : Tmp} (h : fn.results = #[.cell p 23, .tmp u]) (tmps : Array Value) (W : World) (b : Nat) (v : Sc) (hb : Blk W b 23 v.arr) (hp : tmps.getD p undef = .pointer (some ⟨b, 0, none⟩)) :
    (results fn tmps).run Try.prog W = .ok (.tuple #[v.val, tmps.getD u undef]) W := by
  have := loadVar_sc hb
  simp at hp
  simp [results, h, hp, Result.andThen, asAddr, this]
theorem res2 {fn : Func} {p q u : Tmp} (h : fn.results = #[.cell p 23, .cell q 23, .tmp u]) (tmps : Array Value) (W : World) (b c : Nat) (v x : Sc) (hb : Blk W b 23 v.arr) (hc : Blk W c 23 x.arr) (hp : tmps.getD p undef = .pointer (some ⟨b, 0, none⟩)) (hq : tmps.getD q undef = .pointer (some ⟨c, 0, none⟩)) :
    (results fn tmps).run Try.prog W = .ok (.tuple #[v.val, x.val, tmps.getD u undef]) W := by
  have h1 := loadVar_sc hb
  have h2 := loadVar_sc hc
  simp at hp hq
  simp [results, h, hp, hq, Sem.run_bind, Result.andThen, asAddr, h1, h2]

set_option maxRecDepth 100000 in
set_option maxHeartbeats 4000000 in
theorem gain_any (s : Sc) (n : Int) (w : World) : Calls Try.prog 10 #[s.val, .int .i64 n] w fun e w' => e = .returned (.tuple #[(gainP s n).1.val, .int .i64 (gainP s n).2]) ∧ Tch None_ w w' := by
  have HC := Lib.hid (Check_any s)
  have HB := Lib.hid (bound_any (s.p + n))
  have HBLK := Lib.hid (fun w1 (ht1 : Tch None_ ((w.alloc (.cells #[.int .i64 s.p, .int .i64 s.h, .int .i64 s.o, .int .i64 s.k] 23)).alloc (.cells #[.int .i64 0, .int .i64 0, .int .i64 0, .int .i64 0] 23)) w1) => (show Blk w1 (w.heap.size + 1) 23 Sc.zero.arr from by have := (Blk.new (w.alloc (.cells #[.int .i64 s.p, .int .i64 s.h, .int .i64 s.o, .int .i64 s.k] 23)) 23 Sc.zero.arr).keep ht1; simpa using this))
  have HBLS := Lib.hid (fun w1 (ht1 : Tch None_ ((w.alloc (.cells #[.int .i64 s.p, .int .i64 s.h, .int .i64 s.o, .int .i64 s.k] 23)).alloc (.cells #[.int .i64 0, .int .i64 0, .int .i64 0, .int .i64 0] 23)) w1) => (((Blk.new w 23 s.arr).alloc (.cells #[.int .i64 0, .int .i64 0, .int .i64 0, .int .i64 0] 23)).keep ht1 : Blk w1 w.heap.size 23 s.arr))
  have HFIN : Hid (∀ (w1 W : World) (v : Sc), Blk w1 (w.heap.size + 1) 23 Sc.zero.arr → Tch None_ w w1 → W = put4 w1 (w.heap.size + 1) v → Blk W (w.heap.size + 1) 23 v.arr ∧ Tch None_ w W) := by
    rintro w1 W v hb ht rfl
    exact ⟨put4_blk hb v, put4_tch ht (by omega) v⟩
  by_cases hf : s.fine
  · have hc := chk_fine hf
    rw [hc] at HC
    have hfp : -2147483647 ≤ s.p ∧ s.p ≤ 2147483647 := hf.1
    by_cases h1 : n < 0 ∨ 100 < n
    · have hg : gainP s n = (Sc.zero, 1) := by unfold gainP; rw [if_pos hf, if_pos h1]
      rw [hg]
      clear hg hf hc HB
      unfold Sc.val at *
      rcases (show n < 0 ∨ (¬ n < 0 ∧ 100 < n) by omega) with h2 | ⟨h3, h2⟩
      all_goals
        go_enter Try.func10, Try.ntmps10
        go_wp2_with (go_at_call 12; (with_reducible refine (HC.out _).mono ?_); rintro e w1 ⟨rfl, ht1⟩; have HT1 := Lib.hid ht1; obtain ⟨⟨c0, c1, c2, c3⟩, f0, f1, f2, f3⟩ := arr_cells (HBLK.out w1 ht1); clear ht1)
        obtain ⟨hbW, htW⟩ := HFIN.out w1 _ Sc.zero (HBLK.out w1 HT1.out) ((((Tch.refl None_ w).alloc _).alloc _).then HT1.out) rfl
        exact bodyPost_ret (res1 Try.results10 _ _ _ _ hbW rfl) rfl ⟨rfl, htW⟩
    · have hg : gainP s n = ({ s with p := clampI (s.p + n) }, 0) := by unfold gainP; rw [if_pos hf, if_neg h1]
      rw [hg]
      have h2 : ¬ n < 0 := by omega
      have h3 : ¬ 100 < n := by omega
      generalize clampI (s.p + n) = q at *
      clear hg hf hc h1
      unfold Sc.val at *
      go_enter Try.func10, Try.ntmps10
      go_wp2_with (first
        | (go_at_call 12; (with_reducible refine (HC.out _).mono ?_); rintro e w1 ⟨rfl, ht1⟩; have HT1 := Lib.hid ht1; obtain ⟨⟨c0, c1, c2, c3⟩, f0, f1, f2, f3⟩ := arr_cells (HBLK.out w1 ht1); obtain ⟨⟨a0, a1, a2, a3⟩, z0, z1, z2, z3⟩ := arr_cells (HBLS.out w1 ht1); clear ht1)
        | (go_at_call 16; (with_reducible refine (HB.out _).mono ?_); rintro e w2 ⟨rfl, rfl⟩))
      obtain ⟨hbW, htW⟩ := HFIN.out (w1.setCell ⟨w.heap.size, 0, none⟩ (.int .i64 q)) _ ⟨q, s.h, s.o, s.k⟩ ((HBLK.out w1 HT1.out).far (p := ⟨w.heap.size, 0, none⟩) (by show w.heap.size + 1 ≠ w.heap.size; omega) _) (((((Tch.refl None_ w).alloc _).alloc _).then HT1.out).setCell (p := ⟨w.heap.size, 0, none⟩) (.inr (Nat.le_refl _)) _) rfl
      exact bodyPost_ret (res1 Try.results10 _ _ _ _ hbW rfl) rfl ⟨rfl, htW⟩
  · have hc := chk_bad hf
    rw [hc] at HC
    have hg : gainP s n = (Sc.zero, 120) := by unfold gainP; rw [if_neg hf]
    rw [hg]
    clear hg hf hc HB
    unfold Sc.val at *
    go_enter Try.func10, Try.ntmps10
    go_wp2_with (go_at_call 12; (with_reducible refine (HC.out _).mono ?_); rintro e w1 ⟨rfl, ht1⟩; have HT1 := Lib.hid ht1; obtain ⟨⟨c0, c1, c2, c3⟩, f0, f1, f2, f3⟩ := arr_cells (HBLK.out w1 ht1); clear ht1)
    obtain ⟨hbW, htW⟩ := HFIN.out w1 _ Sc.zero (HBLK.out w1 HT1.out) ((((Tch.refl None_ w).alloc _).alloc _).then HT1.out) rfl
    exact bodyPost_ret (res1 Try.results10 _ _ _ _ hbW rfl) rfl ⟨rfl, htW⟩
end Go.Proofs.Ytkamhbfgjmfijaa
