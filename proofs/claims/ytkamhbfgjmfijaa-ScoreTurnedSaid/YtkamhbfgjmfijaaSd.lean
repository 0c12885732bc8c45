/-
  No statement is proved here: seats in order: the insertion sort by the table's order (a walk of the code).
-/
import Derived.Test.YtkamhbfgjmfijaaSc
import Derived.BigRegion
import Derived.ChangeAlike
import Derived.Laws.OwnMore
namespace Go.Proofs.Ytkamhbfgjmfijaa
open Go.RowKit

def sl (l : List Sc) (i : Nat) : Sc := (l[i]?).getD Sc.zero
theorem sl_get {l : List Sc} {i : Nat} (h : i < l.length) : sl l i = l[i] := by simp [sl, h]
/-- Seat i is ahead of seat k. -/
def Ahd (l : List Sc) (i k : Nat) : Prop := (sl l k).p < (sl l i).p ∨ ((sl l k).p = (sl l i).p ∧ ((sl l i).o < (sl l k).o ∨ ((sl l i).o = (sl l k).o ∧ ((sl l k).h < (sl l i).h ∨ ((sl l k).h = (sl l i).h ∧ i < k)))))
instance (l : List Sc) (i k : Nat) : Decidable (Ahd l i k) := by unfold Ahd; exact inferInstance
theorem ord_ahd (l : List Sc) (i k : Nat) : ordI (sl l i) (sl l k) i k < 0 ↔ Ahd l i k := by
  unfold ordI orI cmpI Ahd
  repeat' split
  all_goals omega
theorem Ahd.trans {l : List Sc} {i j k : Nat} (h : Ahd l i j) (h' : Ahd l j k) : Ahd l i k := by
  unfold Ahd at *
  omega
theorem Ahd.total {l : List Sc} {i k : Nat} (h : ¬ Ahd l i k) (hne : i ≠ k) : Ahd l k i := by
  unfold Ahd at *
  omega
theorem Ahd.irrefl {l : List Sc} {i : Nat} : ¬ Ahd l i i := by
  unfold Ahd
  omega
theorem Reads.sc {w : World} {B n : Nat} {A : Option Addr} {l : List Sc} (h : Reads w B 4 A n (l.flatMap Sc.cells)) (hn : l.length = n) (i : Nat) (hi : i < n) :
    ∃ b o, A = some ⟨b, o, none⟩ ∧ b < B ∧ At4 w b (o + i * 4) (sl l i) := by
  obtain ⟨b, o, hA, hb, h0⟩ := h.field Sc.four hn i 0 hi (by omega)
  have hh : ∀ j, j < 4 → w.cell? ⟨b, o + i * 4 + j, none⟩ = (Sc.cells (sl l i))[j]? := by
    intro j hj
    obtain ⟨b', o', hA', _, h1⟩ := h.field Sc.four hn i j hi hj
    rw [hA] at hA'
    injection hA' with hA'
    injection hA' with e1 e2
    subst e1 e2
    rw [h1, sl_get (by omega)]
  exact ⟨b, o, hA, hb, hh 0 (by omega), hh 1 (by omega), hh 2 (by omega), hh 3 (by omega)⟩
theorem order_tab {B m c i k : Nat} {A : Option Addr} {l : List Sc} {w : World} (h : Reads w B 4 A m (l.flatMap Sc.cells)) (hl : l.length = m) (hB : B ≤ w.heap.size) (hi : i < m) (hk : k < m) :
    Calls Try.prog 18 #[.slice A m c, .int .i64 i, .int .i64 k] w fun e w' => e = .returned (.int .i64 (ordI (sl l i) (sl l k) i k)) ∧ Tch None_ w w' := by
  obtain ⟨b, o, rfl, hb, h4⟩ := h.sc hl i hi
  obtain ⟨b', o', hA, _, h4'⟩ := h.sc hl k hk
  injection hA with hA
  injection hA with e1 e2
  subst e1 e2
  exact order_any b o m c i k _ _ w hi hk h4 h4' (by omega)

def nums (ys : List Nat) : List Value := ys.map fun i : Nat => Value.int .i64 (i : Int)
def nl (ys : List Nat) (i : Nat) : Nat := (ys[i]?).getD 0
theorem nums_at {w : World} {base d n c i : Nat} {ys : List Nat} (h : w.ownsRow base 3 1 (.slice (some ⟨d, 0, none⟩) n c) n (nums ys)) (hi : i < n) : w.cell? ⟨d, i, none⟩ = some (.int .i64 (nl ys i)) := by
  have hlen := h.1
  obtain ⟨ad, hA, _, hc⟩ := (Reads.of_own h).2 (by omega)
  injection hA with hA
  subst hA
  have := hc i (.int .i64 (nl ys i)) (by
    have : i < ys.length := by simp [nums] at hlen; omega
    simp [nums, nl, this])
  rwa [add_plain, Nat.zero_add] at this
/-- An exchange of two neighbours. -/
theorem set_swap (A B : List Nat) (a x : Nat) : ((nums (A ++ a :: x :: B)).set (A.length + 1) (.int .i64 a)).set A.length (.int .i64 x) = nums (A ++ x :: a :: B) := by
  have h1 : (A.map fun i : Nat => Value.int .i64 i).length = A.length := by simp
  unfold nums
  simp only [List.map_append, List.map_cons]
  rw [List.set_append_right _ _ (by rw [h1]; omega), h1, show A.length + 1 - A.length = 1 from by omega]
  simp only [List.set_cons_succ, List.set_cons_zero]
  rw [List.set_append_right _ _ (by rw [h1]; omega), h1, Nat.sub_self]
  rfl
theorem nl_mid (A B : List Nat) (x : Nat) : nl (A ++ x :: B) A.length = x := by simp [nl]

set_option maxRecDepth 100000 in
set_option maxHeartbeats 4000000 in
theorem ins_any (l : List Sc) (m cm : Nat) (A : Option Addr) (B base : Nat) (ys : List Nat) (D : Option Addr) (n c : Nat) (w : World) (hr : Reads w B 4 A m (l.flatMap Sc.cells)) (hl : l.length = m) (hB : B ≤ base) (hbw : base ≤ w.heap.size)
    (ho : w.ownsRow base 3 1 (.slice D n c) n (nums ys)) (hy : ∀ y ∈ ys, y < m) (hnd : ys.Nodup) (hn : n ≤ 12) :
    Calls Try.prog 26 #[.slice D n c, .int .i64 0, .int .i64 n, .func (.func 18) #[.slice A m cm] #[]] w fun e w' => e = .returned (.tuple #[]) ∧ ∃ zs : List Nat, zs.Perm ys ∧ zs.Pairwise (Ahd l) ∧
      w'.ownsRow base 3 1 (.slice D n c) n (nums zs) ∧ Tch (fun k => some k = (Value.slice D n c).ownBlock) w w' := by
  have hlen : ys.length = n := by have := ho.1; simpa [nums] using this
  have HO := Lib.hid ho
  have HR := Lib.hid hr
  have HL := Lib.hid hl
  have HY := Lib.hid hy
  have HND := Lib.hid hnd
  clear ho hr hl hy hnd
  go_enter Try.func26, Try.ntmps26
  go_wp2_with fail
  go_loopg [8] (n - 1) (fun gh s8 wr => ∃ (i : Nat) (S C : List Nat), s8 = .int .i64 i ∧ n - i = gh ∧ 1 ≤ i ∧ (i ≤ n ∨ n = 0) ∧ Hid (S.length = i ∨ n = 0) ∧ Hid ((S ++ C).Perm ys) ∧ Hid (S.Pairwise (Ahd l)) ∧ Hid (wr.ownsRow base 3 1 (.slice D n c) n (nums (S ++ C))) ∧ Hid (Tch (fun k => some k = (Value.slice D n c).ownBlock) w wr))
  case atStart =>
    cases ys with
    | nil => exact ⟨1, [], [], rfl, by simp at hlen; omega, by omega, .inr (by simp at hlen; omega), .inr (by simp at hlen; omega), List.Perm.refl _, List.Pairwise.nil, HO.out, Tch.refl _ _⟩
    | cons y ys => exact ⟨1, [y], ys, rfl, rfl, by omega, .inl (by simp at hlen; omega), .inl rfl, List.Perm.refl _, List.pairwise_singleton _ _, HO.out, Tch.refl _ _⟩
  case round =>
    obtain ⟨i, S, C, rfl, rfl, hi1, hin, HS, HP, HPW, HRW, HT⟩ := hrel
    have hln : S.length + C.length = n := by
      have := HP.out.length_eq
      simp at this
      omega
    by_cases hlt : i < n
    · have hSi : S.length = i := by rcases HS.out with h | h <;> omega
      cases C with
      | nil => simp at hln; omega
      | cons x C =>
        obtain ⟨wo, rfl⟩ : ∃ wo : World, wo = wr := ⟨_, rfl⟩
        go_wp2_with fail
        go_loopg [9] i (fun gh s9 wr => ∃ (S1 S2 : List Nat), s9 = .int .i64 gh ∧ S1.length = gh ∧ gh ≤ i ∧ Hid (S1.length + S2.length = i) ∧ Hid ((S1 ++ S2).Pairwise (Ahd l)) ∧ Hid (∀ y ∈ S2, Ahd l x y) ∧ Hid ((S1 ++ x :: S2 ++ C).Perm ys) ∧ Hid (wr.ownsRow base 3 1 (.slice D n c) n (nums (S1 ++ x :: (S2 ++ C)))) ∧ Hid (Tch (fun k => some k = (Value.slice D n c).ownBlock) w wr))
        case atStart => exact ⟨S, [], rfl, hSi, by omega, by simpa [Hid] using hSi, by simpa [Hid] using HPW.out, by simp [Hid], by simpa [Hid] using HP.out, by simpa [Hid] using HRW.out, HT.out⟩
        case round =>
          obtain ⟨S1, S2, rfl, rfl, hji, HJ, HPJ, HXJ, HQ, HRJ, HTJ⟩ := hrel
          obtain ⟨d, cs, rfl, _⟩ := Blk.of_own HRJ.out (by omega)
          have hlen2 : S1.length + 1 + (S2.length + C.length) = n := by
            have := HQ.out.length_eq
            simp at this
            omega
          rcases S1.eq_nil_or_concat with rfl | ⟨S0, a, hS1⟩
          · simp at hlen2
            have hi2 : i + 1 ≤ n := hlt
            have hsi : S2.length = i := by have := HJ.out; simpa using this
            go_wp2_with fail
            go_quiet (fail)
            go_wp2_with fail
            go_roundg (n - (i + 1))
            case measure => omega
            case rel => exact ⟨i + 1, x :: S2, C, by go_num, by omega, by omega, .inl (by omega), .inl (by simp [hsi]), by simpa [Hid] using HQ.out, List.pairwise_cons.2 ⟨HXJ.out, by simpa using HPJ.out⟩, by simpa [Hid] using ((Tch.refl None_ wr).drewN nq).row HRJ.out (fun _ _ h => h), HTJ.out.drewN _⟩
          · rw [List.concat_eq_append] at hS1
            obtain ⟨p1, hp1⟩ : ∃ p1 : Nat, p1 = S1.length := ⟨_, rfl⟩
            obtain ⟨p0, hp0⟩ : ∃ p0 : Nat, p0 = S0.length := ⟨_, rfl⟩
            have hl1 : S1.length = p1 := hp1.symm
            have hp2 : p1 = S0.length + 1 := by rw [hp1, hS1]; simp
            have hlen3 : p1 + 1 + (S2.length + C.length) = n := by omega
            have HJ' := Lib.hid HJ.out
            rw [hl1]
            rw [hl1] at hji HJ'
            clear hlen2 hp1
            have HS1 := Lib.hid hS1
            have HL1 := Lib.hid hl1
            clear hS1 hl1
            have hq : (p1 : Int) - 1 = (p0 : Int) := by omega
            have c1 : wr.cell? ⟨d, p1, none⟩ = some (.int .i64 x) := by
              have := nums_at HRJ.out (i := p1) (by omega)
              rw [this, ← HL1.out, nl_mid]
            have c0 : wr.cell? ⟨d, p0, none⟩ = some (.int .i64 a) := by
              have := nums_at HRJ.out (i := p0) (by omega)
              rw [this, hp0]
              have : S1 ++ x :: (S2 ++ C) = S0 ++ a :: (x :: (S2 ++ C)) := by rw [HS1.out]; simp
              rw [this, nl_mid]
            have hxa : a ≠ x := by
              have := (HQ.out.nodup_iff).2 HND.out
              rw [show S1 ++ x :: S2 ++ C = S0 ++ (a :: x :: (S2 ++ C)) by rw [HS1.out]; simp] at this
              have := (List.nodup_append.1 this).2.1
              simp at this
              exact fun h => this.1.1 h
            have hxm : x < m := HY.out x (HQ.out.mem_iff.1 (by simp))
            have ham : a < m := HY.out a (HQ.out.mem_iff.1 (by rw [HS1.out]; simp))
            have HORD := Lib.hid (fun W (ht : Tch (fun k => some k = (Value.slice (some ⟨d, 0, none⟩) n c).ownBlock) w W) => order_tab (c := cm) (HR.out.tch ht (by omega) (fun k hk e => by have := (HRJ.out.lt k e.symm).1; omega)) HL.out (by have := ht.size; omega) hxm ham)
            have hord := ord_ahd l x a
            generalize ordI (sl l x) (sl l a) x a = r at *
            have hpn : p1 < n := by omega
            have hpn0 : p0 < n := by omega
            have hp1p : 0 < p1 := by omega
            have hqw : IntKind.i64.wrap (p0 : Int) = (p0 : Int) := IntWalk.i64_in _ (by omega)
            have HP2 := Lib.hid hp2
            have HP0 := Lib.hid hp0
            clear hp2 hp0
            go_wp2_with fail
            go_still_tail 14, (by kernel_rfl)
            clear c0 c1
            by_cases hA : Ahd l x a
            · have hr0 : r < 0 := hord.2 hA
              clear hord
              go_wp2_with (go_at_call 18; (with_reducible refine (HORD.out _ HTJ.out.drew).mono ?_); rintro e w1 ⟨rfl, ht1⟩)
              have HT1 := Lib.hid ((Tch.refl None_ wr).drew.then ht1)
              have hrow1 := HT1.out.row HRJ.out (fun _ _ h => h)
              have c1 := nums_at hrow1 (i := p1) (by omega)
              have c0 := nums_at hrow1 (i := p0) (by omega)
              have e1 : nl (S1 ++ x :: (S2 ++ C)) p1 = x := by rw [← HL1.out, nl_mid]
              have e0 : nl (S1 ++ x :: (S2 ++ C)) p0 = a := by
                have : S1 ++ x :: (S2 ++ C) = S0 ++ a :: (x :: (S2 ++ C)) := by rw [HS1.out]; simp
                rw [this, HP0.out, nl_mid]
              rw [e1] at c1
              rw [e0] at c0
              have hf1 := hrow1.frozenAt p1
              have hf0 := hrow1.frozenAt p0
              have HW : Hid (∀ W, W = ((w1.setCell ⟨d, p1, none⟩ (.int .i64 a)).setCell ⟨d, p0, none⟩ (.int .i64 x)).drew → W.ownsRow base 3 1 (.slice (some ⟨d, 0, none⟩) n c) n (nums (S0 ++ x :: (a :: S2 ++ C))) ∧ Tch (fun k => some k = (Value.slice (some ⟨d, 0, none⟩) n c).ownBlock) wr W) := by
                rintro W rfl
                have h2 := ((hrow1.stored p1 (.int .i64 (a : Int))).1.stored p0 (.int .i64 (x : Int))).1
                have h3 : ((nums (S1 ++ x :: (S2 ++ C))).set p1 (.int .i64 (a : Int))).set p0 (.int .i64 (x : Int)) = nums (S0 ++ x :: (a :: S2 ++ C)) := by
                  have := set_swap S0 (S2 ++ C) a x
                  rw [HP2.out, HP0.out, HS1.out]
                  simpa using this
                rw [h3] at h2
                refine ⟨h2.drew, ((((Tch.any HT1.out).setCell (p := ⟨d, p1, none⟩) (.inl ?_) _).setCell (p := ⟨d, p0, none⟩) (.inl ?_) _).drew)⟩ <;> simp [Value.ownBlock]
              clear hrow1 e1 e0 ht1 HORD
              go_wp2_with fail
              go_region
              go_wp2_with fail
              go_roundg p0
              case measure =>
                have h1 := HP2.out
                have h2 := HP0.out
                have h3 := HL1.out
                omega
              case rel =>
                obtain ⟨hW, hTW⟩ := HW.out _ rfl
                have hp0 := HP0.out
                have hp2 := HP2.out
                refine ⟨S0, a :: S2, by go_num, by omega, by omega, by have := HJ'.out; simp [Hid]; omega, ?_, ?_, ?_, hW, HTJ.out.then hTW⟩
                · have := HPJ.out
                  rw [HS1.out] at this
                  simpa [Hid] using this
                · intro y hy
                  rcases List.mem_cons.1 hy with rfl | hy
                  · exact hA
                  · exact HXJ.out y hy
                · refine List.Perm.trans ?_ HQ.out
                  rw [HS1.out]
                  simp only [List.append_assoc, List.cons_append, List.nil_append]
                  exact (List.Perm.swap _ _ _).append_left S0
            · have hr0 : ¬ r < 0 := fun h => hA (hord.1 h)
              have hax : Ahd l a x := Ahd.total hA (fun h => hxa h.symm)
              clear hord
              go_wp2_with (go_at_call 18; (with_reducible refine (HORD.out _ HTJ.out.drew).mono ?_); rintro e w1 ⟨rfl, ht1⟩)
              have HT1 := Lib.hid ((Tch.refl None_ wr).drew.then ht1)
              have hi2 : i + 1 ≤ n := hlt
              go_roundg (n - (i + 1))
              case measure => omega
              case rel =>
                have hl1 := HL1.out
                have hJ := HJ'.out
                refine ⟨i + 1, S1 ++ x :: S2, C, by go_num, by omega, by omega, .inl (by omega), .inl (by simp; omega), HQ.out, ?_, by simpa [Hid] using HT1.out.row HRJ.out (fun _ _ h => h), HTJ.out.quiet HT1.out⟩
                have hp := HPJ.out
                rw [HS1.out] at hp ⊢
                simp only [List.append_assoc, List.cons_append, List.nil_append] at hp ⊢
                rw [List.pairwise_append] at hp ⊢
                obtain ⟨q1, q2, q3⟩ := hp
                have q2' := List.pairwise_cons.1 q2
                refine ⟨q1, List.pairwise_cons.2 ⟨fun y hy => ?_, List.pairwise_cons.2 ⟨HXJ.out, q2'.2⟩⟩, fun u hu y hy => ?_⟩
                · rcases List.mem_cons.1 hy with rfl | hy
                  · exact hax
                  · exact q2'.1 y hy
                · rcases List.mem_cons.1 hy with rfl | hy
                  · exact q3 u hu _ (by simp)
                  · rcases List.mem_cons.1 hy with rfl | hy
                    · exact (q3 u hu a (by simp)).trans hax
                    · exact q3 u hu y (by simp [hy])
    · have hin' : i = n ∨ n = 0 := by omega
      have hC : C = [] := by rcases HS.out with h | h <;> (rw [← List.length_eq_zero_iff]; omega)
      subst hC
      go_wp2_with fail
      go_end0
      exact ⟨rfl, S, by simpa using HP.out, HPW.out, by simpa using HRW.out, HT.out⟩
end Go.Proofs.Ytkamhbfgjmfijaa
