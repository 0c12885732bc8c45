/-
  No statement is proved here: the sort of parcels by their numbers (the library's contract paid by a walk of the closure).
-/
import Derived.Test.YtpjlfmaebkjojaaShelf
import Derived.Test.YtpjlfmaebkjojaaSorta
import Derived.Test.YtpjlfmaebkjojaaBagb
namespace Go.Proofs.Ytpjlfmaebkjojaa
open Go.RowKit Go.Maps Go.Sort Go.Shelf

/-- A parcel's four cells. -/
def Par.cells (p : Par) : List Value := [.int .i64 p.no, .int .i64 p.frm, .int .i64 p.to, p.v]
theorem Par.four (p : Par) : p.cells.length = 4 := rfl
/-- All but the slice's value. -/
def Par.told (p : Par) : Int × Int × Int × List Int := (p.no, p.frm, p.to, p.bs)

/-- A parcel whose number is one that a bag gives. -/
abbrev PN : Type := { p : Par // (1 ≤ p.no ∧ p.no ≤ 4611686018427387904) ∧ p.v.oneCell' = true }
instance pnInh : Inhabited PN := ⟨⟨⟨1, 0, 0, [], .slice none 0 0⟩, ⟨by decide, by decide⟩, rfl⟩⟩
def cellsN (x : PN) : List Value := x.1.cells
def cfN (x y : PN) : Int := x.1.no - y.1.no
theorem ltN (x y : PN) : ltOf cfN x y = true ↔ x.1.no < y.1.no := by
  unfold ltOf cfN
  rw [decide_eq_true_iff]
  omega
theorem ltN' (x y : PN) : ltOf cfN x y = false ↔ y.1.no ≤ x.1.no := by
  unfold ltOf cfN
  rw [decide_eq_false_iff_not]
  omega
theorem swoN : SWO (ltOf cfN) where
  irrefl x := (ltN' x x).2 (Int.le_refl _)
  trans x y z h1 h2 := by
    rw [ltN] at h1 h2 ⊢
    omega
  ntrans x y z h1 h2 := by
    rw [ltN'] at h1 h2 ⊢
    omega

theorem closure_any (x y : PN) (W : World) : Calls Try.prog 26 #[.agg (cellsN x).toArray, .agg (cellsN y).toArray] W fun e w' => e = .returned (.int .i64 (cfN x y)) ∧ ∃ q os', w' = grow (W.drewN q) os' := by
  obtain ⟨⟨no, frm, to, bs, v⟩, ⟨h1, h2⟩, h3⟩ := x
  obtain ⟨⟨no', frm', to', bs', v'⟩, ⟨k1, k2⟩, k3⟩ := y
  simp only at h1 h2 h3 k1 k2 k3
  have HG : Hid (∀ a b : Obj, ∃ q os', ((W.alloc a).alloc b) = grow (W.drewN q) os') := fun a b => grow_of (((Tch.refl None_ W).alloc _).alloc _) (Nat.le_refl _)
  simp only [cellsN, Par.cells, cfN]
  have H3 := Lib.hid h3
  have K3 := Lib.hid k3
  clear h3 k3
  go_enter Try.func26, Try.ntmps26
  go_wp2
  go_ret
  exact ⟨rfl, HG.out _ _⟩

theorem isAgg31 (w : World) : (isAgg 31).run Try.prog w = .ok true w := by kernel_rfl
theorem sizeOf31 (w : World) : (Go.sizeOf 31).run Try.prog w = .ok 4 w := by kernel_rfl
/-- slices.SortFunc at parcels with rising numbers wanted. -/
theorem sort_any (base n c : Nat) (A : Option Addr) (fs : List Par) (w : World) (hrow : w.ownsRow base 31 4 (.slice A n c) n (fs.flatMap Par.cells)) (hn : fs.length = n) (hbd : ∀ p ∈ fs, (1 ≤ p.no ∧ p.no ≤ 4611686018427387904) ∧ p.v.oneCell' = true) (hsz : n < 4611686018427387904) :
    Calls Try.prog 25 #[.slice A n c, .func (.func 26) #[] #[]] w fun e w' => e = .returned (.tuple #[]) ∧ ∃ fs' : List Par, fs'.Perm fs ∧ fs'.Pairwise (fun p q => p.no ≤ q.no) ∧ w'.ownsRow base 31 4 (.slice A n c) n (fs'.flatMap Par.cells) ∧
      Tch (fun k => (Value.slice A n c).ownBlock = some k) w w' := by
  rcases Nat.eq_zero_or_pos n with h0 | h0
  · subst h0
    have hcon := AnyF.slices_SortFunc_none Try.sortPar A c (.func (.func 26) #[] #[]) w
    change Calls Try.prog 25 _ _ _ at hcon
    refine hcon.mono ?_
    rintro e w' ⟨rfl, rfl⟩
    obtain rfl := List.eq_nil_of_length_eq_zero hn
    exact ⟨rfl, [], List.Perm.refl _, List.Pairwise.nil, hrow, Tch.refl _ _⟩
  · obtain ⟨b, cs, rfl, _⟩ := Blk.of_own hrow h0
    have eg : ∀ args w, (callFunc 26 args).run Try.prog w = .ok (.enter 26 args) w := enters_of Try.func26 (by kernel_rfl) rfl
    let ds : List PN := fs.pmap (fun p h => ⟨p, h⟩) hbd
    have hmap : ds.map Subtype.val = fs := by simp only [ds, List.map_pmap]; simp
    have hflat : ds.flatMap cellsN = fs.flatMap Par.cells := by
      conv => rhs; rw [← hmap]
      rw [List.flatMap_map]
      rfl
    have hdl : ds.toArray.size = n := by
      have := congrArg List.length hmap
      simp at this
      simp
      omega
    obtain ⟨hH, hblk⟩ := own_holds cellsN (fun x => Par.four x.1) ds.toArray hdl h0 (by simpa [hflat] using hrow)
    have hcon := AnyQ.slices_SortFunc Try.sortPar 4 isAgg31 sizeOf31 cellsN (fun x => Par.four x.1) (fun x v hv => by
      simp only [cellsN, Par.cells, List.mem_cons, List.not_mem_nil, or_false] at hv
      rcases hv with rfl | rfl | rfl | rfl
      · rfl
      · rfl
      · rfl
      · exact x.2.2) cfN swoN 26 #[] b 0 c ds.toArray w eg (fun _ _ _ _ x y => closure_any x y _) hH hblk (by omega)
    rw [hdl] at hcon
    change Calls Try.prog 25 _ _ _ at hcon
    refine hcon.mono ?_
    rintro e w' ⟨rfl, d', m, os, hp, hs, rfl⟩
    have hds : d'.size = n := by rw [hp.1, hdl]
    obtain ⟨ho, ht⟩ := sorted_own (m := m) cellsN (fun x => Par.four x.1) d' os hrow hds
    refine ⟨rfl, d'.toList.map Subtype.val, ?_, ?_, ?_, ht.mono (fun k _ h => by rw [h]; rfl)⟩
    · have h1 := permIn_all (d := ds.toArray) (by rw [hdl]; exact hp)
      have := h1.map Subtype.val
      simpa [hmap] using this
    · have h1 := sortedIn_all hds hs
      rw [List.pairwise_map]
      exact h1.imp fun h => (ltN' _ _).1 h
    · rw [List.flatMap_map]
      exact ho
end Go.Proofs.Ytpjlfmaebkjojaa
