/-
  No statement is proved here: a queue in memory, and what New, Len and Push come to (walks of the code).
-/
import Derived.Test.YtfdgkikgafojpaaQk
namespace Go.Proofs.Ytfdgkikgafojpaa
open Go.RowKit Go.Maps

def keyOfK (k : Int × Int × Int) : Value := .agg #[.int .i64 k.1, .int .i64 k.2.1, .int .i64 k.2.2]
def kent (k : Int × Int × Int) : Value × Value := (keyOfK k, .int .i64 1)
def okK (k : Int × Int × Int) : Prop := (-9223372036854775808 ≤ k.1 ∧ k.1 ≤ 9223372036854775807) ∧ (-9223372036854775808 ≤ k.2.1 ∧ k.2.1 ≤ 9223372036854775807) ∧ (-9223372036854775808 ≤ k.2.2 ∧ k.2.2 ≤ 9223372036854775807)
theorem keyOfK_inj {a b : Int × Int × Int} (h : keyOfK a = keyOfK b) : a = b := by
  obtain ⟨a1, a2, a3⟩ := a
  obtain ⟨b1, b2, b3⟩ := b
  unfold keyOfK at h
  simp only [Value.agg.injEq, Array.mk.injEq, List.cons.injEq, Value.int.injEq, true_and, and_true] at h
  simp [h]
theorem keyLits_int {P : Program} {d : Nat} {t : TypeId} {q : IntKind} {n : Int} (h : P.underlying t = some (.int q)) (hw : (Lit.int q n).wf = true) : P.keyLits (d + 1) t [.int q n] = some [.int q n] := by
  simp [Program.keyLits, h, hw]
theorem typesQ : ∃ d, Try.prog.types.size = d + 1 := ⟨Try.prog.types.size - 1, by kernel_rfl⟩
theorem keyQ (k : Int × Int × Int) (h : okK k) : ∃ l, keyOf Try.prog 62 (keyOfK k) = some l := by
  obtain ⟨d, hd⟩ := typesQ
  obtain ⟨h1, h2, h3⟩ := h
  have hk : Try.prog.keyType 62 = true := by kernel_rfl
  have hf : (keyOfK k).formed Try.prog 62 = true := by kernel_rfl
  have hc : Try.prog.cellsOf 62 = 3 := by kernel_rfl
  have hc2 : Try.prog.cellsOf 2 = 1 := by kernel_rfl
  have hc3 : Try.prog.cellsOf 3 = 1 := by kernel_rfl
  have e1 : Try.prog.keyLits (d + 1) 2 [.int .i64 k.1] = some [.int .i64 k.1] := keyLits_int Try.underlying2 (WalkArith.wf_i64 h1)
  have e2 : Try.prog.keyLits (d + 1) 3 [.int .i64 k.2.1] = some [.int .i64 k.2.1] := keyLits_int Try.underlying3 (WalkArith.wf_i64 h2)
  have e3 : Try.prog.keyLits (d + 1) 3 [.int .i64 k.2.2] = some [.int .i64 k.2.2] := keyLits_int Try.underlying3 (WalkArith.wf_i64 h3)
  refine ⟨.string (keyBytes [.int .i64 k.1, .int .i64 k.2.1, .int .i64 k.2.2]), ?_⟩
  unfold keyOf
  rw [Try.underlying62]
  simp only [hk, hf, Bool.and_self, if_true, hd]
  have : Try.prog.keyLits (d + 1 + 1) 62 (keyOfK k).cells.toList = some [.int .i64 k.1, .int .i64 k.2.1, .int .i64 k.2.2] := by
    unfold Program.keyLits
    rw [Try.underlying62]
    simp [keyOfK, Value.cells, hc, hc2, hc3, e1, e2, e3]
  rw [this]
  rfl

/-- A queue in memory: its block g, its map's block mb, its pile's value v; l: its entries as they lie in the pile. -/
structure QAt (w : World) (g mb : Nat) (v : Value) (l : List Ent) : Prop where
  pile : Pile w 0 g mb v l
  heap : Heap l
  map : ∃ ks : List (Int × Int × Int), MapAt Try.prog 62 w mb (ks.map kent) ∧ ks.Perm (l.map Ent.key)
  keys : Keys1 l
  ok : ∀ e ∈ l, okK e.key
  len : l.length ≤ 4096
section
variable {w w' : World} {g mb : Nat} {v : Value} {l : List Ent}
theorem QAt.tch {S : Nat → Prop} (h : QAt w g mb v l) (ht : Tch S w w') (h1 : ¬ S g) (h2 : ¬ S mb) (h3 : ∀ k, v.ownBlock = some k → ¬ S k) : QAt w' g mb v l := by
  obtain ⟨ks, hm, hp⟩ := h.map
  exact ⟨h.pile.tch ht h1 h3, h.heap, ⟨ks, hm.tch ht h2, hp⟩, h.keys, h.ok, h.len⟩
theorem QAt.keep (h : QAt w g mb v l) (ht : Tch None_ w w') : QAt w' g mb v l := h.tch ht (fun h => h) (fun h => h) (fun _ _ h => h)
theorem QAt.mlt (h : QAt w g mb v l) : mb < w.heap.size := by obtain ⟨ks, hm, _⟩ := h.map; exact hm.lt
theorem QAt.glt (h : QAt w g mb v l) : g < w.heap.size := h.pile.box.lt
theorem QAt.ne (h : QAt w g mb v l) : g ≠ mb := by obtain ⟨ks, hm, _⟩ := h.map; exact hm.ne_blk h.pile.box
theorem QAt.vg (h : QAt w g mb v l) : ∀ k, v.ownBlock = some k → k ≠ g := h.pile.ne
theorem QAt.vm (h : QAt w g mb v l) : ∀ k, v.ownBlock = some k → k ≠ mb := by obtain ⟨ks, hm, _⟩ := h.map; exact hm.ne_own h.pile.row
theorem QAt.vlt (h : QAt w g mb v l) : ∀ k, v.ownBlock = some k → k < w.heap.size := fun k hk => (h.pile.row.lt k hk).2
theorem QAt.keyZ (w : World) : (zeroValue 3).run Try.prog w = .ok (.int .i64 0) w := by kernel_rfl
/-- What a look-up of a key gives. -/
theorem QAt.look (h : QAt w g mb v l) (e : Ent) (he : okK e.key) :
    (e.key ∉ l.map Ent.key → (Instr.lookup 57 (.map (some mb)) (keyOfK e.key) false).run Try.prog w = .ok (.int .i64 0) w) ∧
    (e.key ∈ l.map Ent.key → (Instr.lookup 57 (.map (some mb)) (keyOfK e.key) false).run Try.prog w = .ok (.int .i64 1) w) := by
  obtain ⟨ks, hm, hp⟩ := h.map
  obtain ⟨kl, hkl⟩ := keyQ e.key he
  have hl := hm.look false lawKey Try.underlying57 (QAt.keyZ w) hkl
  constructor
  · intro hn
    refine hl.1 fun p hp' e' => ?_
    obtain ⟨k, hk, rfl⟩ := List.mem_map.1 hp'
    exact hn (by rw [← keyOfK_inj e']; exact hp.mem_iff.1 hk)
  · intro hy
    exact hl.2 (.int .i64 1) (List.mem_map.2 ⟨e.key, hp.mem_iff.2 hy, rfl⟩)
end

theorem QNew_any (w : World) : Calls Try.prog 8 #[] w fun x w' => ∃ g mb, x = .returned (.pointer (some ⟨g, 0, none⟩)) ∧ QAt w' g mb (.slice none 0 0) [] ∧ w.heap.size ≤ g ∧ w.heap.size ≤ mb ∧ Tch None_ w w' := by
  have hmm := @run_makeMap Try.prog
  go_enter Try.func8, Try.ntmps8
  go_wp2_with fail
  go_ret
  have hb := Blk.new (w.alloc (.map #[] 0)) 60 #[.slice none 0 0, .map (some w.heap.size)]
  exact ⟨w.heap.size + 1, w.heap.size, rfl, ⟨⟨by simpa using hb, World.ownsRow_nil _ _ _ _⟩, Heap.nil, ⟨[], by simpa using (MapAt.made w).keep ((Tch.refl _ _).alloc _), List.Perm.refl _⟩, by simp [Keys1], by simp, by simp⟩, by omega, Nat.le_refl _, ((Tch.refl _ _).alloc _).alloc _⟩

theorem QLen_any (g mb : Nat) (v : Value) (l : List Ent) (w : World) (h : QAt w g mb v l) :
    Calls Try.prog 10 #[.pointer (some ⟨g, 0, none⟩)] w fun e w' => e = .returned (.int .i64 l.length) ∧ w = w' := by
  have c0 := h.pile.box.cell 0
  obtain ⟨A, c, rfl, _, _⟩ := own_form h.pile.row
  simp at c0
  clear h
  go_enter Try.func10, Try.ntmps10
  go_wp2_with fail
  go_ret
  exact ⟨rfl, rfl⟩
end Go.Proofs.Ytfdgkikgafojpaa
