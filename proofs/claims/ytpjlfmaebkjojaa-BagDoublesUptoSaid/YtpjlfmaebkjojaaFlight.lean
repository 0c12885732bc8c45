/-
  No statement is proved here: the bag's Flight: a walk (the collecting loop).
-/
import Derived.Test.YtpjlfmaebkjojaaFsort
import Derived.Test.YtpjlfmaebkjojaaIter
import Derived.Deep.LoopGhost
namespace Go.Proofs.Ytpjlfmaebkjojaa
open Go.RowKit Go.Maps

theorem perm_of_map {α β : Type} (f : α → β) : ∀ {m l2 : List β}, m.Perm l2 → ∀ l1 : List α, m = l1.map f → ∃ l', l1.Perm l' ∧ l2 = l'.map f := by
  intro m l2 h
  induction h with
  | nil => intro l1 e; exact ⟨l1, .refl _, e⟩
  | cons x _ ih =>
    intro l1 e
    cases l1 with
    | nil => cases e
    | cons a l1 =>
      injection e with e1 e2
      obtain ⟨l', h1, h2⟩ := ih l1 e2
      exact ⟨a :: l', h1.cons a, by rw [e1, h2]; rfl⟩
  | swap x y l =>
    intro l1 e
    match l1, e with
    | a :: b :: l1, e =>
      simp only [List.map_cons, List.cons.injEq] at e
      obtain ⟨e1, e2, e3⟩ := e
      exact ⟨b :: a :: l1, List.Perm.swap b a l1, by rw [e1, e2, e3]; rfl⟩
  | trans _ _ ih1 ih2 =>
    intro l1 e
    obtain ⟨l', h1, h2⟩ := ih1 l1 e
    obtain ⟨l'', h3, h4⟩ := ih2 l' h2
    exact ⟨l'', h1.trans h3, h4⟩

theorem info31 : (Try.prog.info? 31).map (fun i => (i.zero, i.size, i.bytes)) = some (some (.agg #[.int .i64 0, .int .i64 0, .int .i64 0, .slice none 0 0]), 4, 48) := by kernel_rfl
theorem perm_sorted_eq {α : Type} (f : α → Int) : ∀ {l2 l1 : List α}, l1.Perm l2 → l1.Pairwise (fun x y => f x ≤ f y) → l2.Pairwise (fun x y => f x < f y) → l1 = l2 := by
  intro l2
  induction l2 with
  | nil => intro l1 h _ _; exact List.perm_nil.1 h
  | cons y l2 ih =>
    intro l1 h h1 h2
    cases l1 with
    | nil => exact absurd h.length_eq (by simp)
    | cons x l1 =>
      have hxy : x = y := by
        rcases List.mem_cons.1 (h.mem_iff.1 (List.mem_cons_self)) with e | e
        · exact e
        · rcases List.mem_cons.1 (h.mem_iff.2 (List.mem_cons_self (a := y) (l := l2))) with e' | e'
          · exact e'.symm
          · have a1 := (List.pairwise_cons.1 h2).1 x e
            have a2 := (List.pairwise_cons.1 h1).1 y e'
            omega
      subst hxy
      rw [ih h.cons_inv (List.pairwise_cons.1 h1).2 (List.pairwise_cons.1 h2).2]
/-- Copies of parcels: their bytes in blocks of their own, from base on. -/
structure Copies (w : World) (base : Nat) (fs : List Par) : Prop where
  rows : ∀ p ∈ fs, w.ownsRow base 5 1 p.v p.bs.length (u8s p.bs)
  nd : (blks fs).Nodup

theorem own_ne {w : World} {b1 b2 s1 s2 n1 n2 : Nat} {t1 t2 : TypeId} {v1 v2 : Value} {x1 x2 : List Value} (h1 : w.ownsRow b1 t1 s1 v1 n1 x1) (h2 : w.ownsRow b2 t2 s2 v2 n2 x2) (hne : t1 ≠ t2) : ∀ k, v1.ownBlock = some k → ¬ some k = v2.ownBlock := by
  intro k hk e
  rcases h1.2 with ⟨rfl, _⟩ | ⟨g, cap, cur, rfl, _, hh, _⟩
  · simp [Value.ownBlock] at hk
  · rcases h2.2 with ⟨rfl, _⟩ | ⟨g', cap', cur', rfl, _, hh', _⟩
    · simp [Value.ownBlock] at e
    · simp [Value.ownBlock] at hk e
      subst hk e
      exact hne (Blk.eq (t := t1) (t' := t2) hh hh').1

set_option maxHeartbeats 1000000 in
theorem Flight_any (g mb base last : Nat) (ps : List Par) (w : World) (hg : BagAt w base g mb ps last) (hl : last < 4611686018427387904) (hsz : ps.length * 48 ≤ 140737488351232) :
    Calls Try.prog 15 #[.pointer (some ⟨g, 0, none⟩)] w fun e w' => ∃ v fs, e = .returned v ∧ w'.ownsRow w.heap.size 31 4 v ps.length (fs.flatMap Par.cells) ∧ fs.map Par.told = ps.map Par.told ∧ Copies w' w.heap.size fs ∧ Tch None_ w w' := by
  have c0 := hg.box.cell 0
  have lg := hg.box.lt
  have lm := hg.map.lt
  simp at c0
  obtain ⟨w0, hrun, hit, ht0, hs0⟩ := hg.map.range (e := 31) Try.underlying55
  obtain ⟨i0, hi, hz0, hz1, hz2⟩ := info_parts info31
  have HG := Lib.hid hg
  have HSZ := Lib.hid hsz
  clear hg hsz
  go_enter Try.func15, Try.ntmps15
  go_wp2_with (at_range; refine wpList_range_run rfl (.tmp 9) 55 rfl _ _ rfl hrun ?_)
  clear c0
  obtain ⟨r, hr⟩ : ∃ r, w.heap.size = r := ⟨_, rfl⟩
  rw [hr] at hit lg lm hs0 ⊢
  have hs0 : w0.heap.size ≤ r + 1 := by omega
  have HR := Lib.hid hr
  clear hr
  go_frame
  go_loopg [3, 5] ps.length (fun gh v _ wr => ∃ todo outp fs : List Par, IterAt wr r mb (ps.map Par.ent) (todo.map Par.ent) ∧ gh = todo.length ∧ (outp ++ todo).Perm ps ∧ fs.map Par.told = outp.map Par.told ∧ wr.ownsRow (r + 1) 31 4 v fs.length (fs.flatMap Par.cells) ∧ Copies wr (r + 1) fs ∧ Tch (fun j => j = r) w0 wr)
  case atStart => exact ⟨ps, [], [], hit, rfl, .refl _, rfl, World.ownsRow_nil _ _ _ _, ⟨by simp, by simp [blks]⟩, Tch.refl _ _⟩
  case round =>
    obtain ⟨todo, outp, fs, hit, rfl, hperm, htold, hown, hcop, ht⟩ := hrel
    go_wp2_with (at_next; refine wpList_next_iter rfl (.tmp 10) rfl rfl hit (by omega) ?_ ?_)
    · intro h0'
      have htn : todo = [] := h0'
      subst htn
      clear hit h0'
      have hfn : fs.length = ps.length := by
        have h1 := congrArg List.length htold
        have h2 := hperm.length_eq
        simp at h1 h2
        omega
      have hbd : ∀ p ∈ fs, (1 ≤ p.no ∧ p.no ≤ 4611686018427387904) ∧ p.v.oneCell' = true := by
        intro p hp
        have h1 : p.told ∈ outp.map Par.told := by rw [← htold]; exact List.mem_map_of_mem hp
        obtain ⟨q, hq, he⟩ := List.mem_map.1 h1
        have h2 := HG.out.bd q (hperm.mem_iff.1 (List.mem_append_left _ hq))
        simp only [Par.told, Prod.mk.injEq] at he
        rw [← he.1]
        refine ⟨by omega, ?_⟩
        obtain ⟨A, c, hv, _, _⟩ := own_form (hcop.rows p hp)
        rw [hv]
        rfl
      have HSORT := Lib.hid (fun A n c (hv : u3 = .slice A n c) (hn : n = fs.length) => sort_any (r + 1) n c A fs wr (by rw [← hv, hn]; exact hown) hn.symm hbd (by have := HSZ.out; omega))
      have HOWN := Lib.hid hown
      have HCOP := Lib.hid hcop
      have HPERM := Lib.hid hperm
      have HTOLD := Lib.hid htold
      have HT := Lib.hid ht
      have HFN := Lib.hid hfn
      obtain ⟨A, c, rfl, _, _⟩ := own_form hown
      clear hown hcop hperm htold hbd ht hfn hrun
      go_wp2_with (go_at_call 25; (with_reducible refine (HSORT.out _ _ _ rfl rfl).mono ?_); rintro e w4 ⟨rfl, fs', hp, hpw, hrow4, ht4⟩)
      go_ret
      have hr := HR.out
      have hge : ∀ k, (Value.slice A fs.length c).ownBlock = some k → r + 1 ≤ k := fun k hk => (HOWN.out.lt k hk).1
      refine ⟨_, fs', rfl, ?_, ?_, ⟨fun p hp' => ?_, ?_⟩, ?_⟩
      · rw [← HFN.out]
        exact own_base hrow4 (by omega)
      · refine perm_sorted_eq (fun t => t.1) ?_ ?_ ?_
        · have h1 := hp.map Par.told
          rw [HTOLD.out] at h1
          have h2 := HPERM.out.map Par.told
          rw [List.append_nil] at h2
          exact h1.trans h2
        · rw [List.pairwise_map]
          exact hpw.imp fun h => h
        · rw [List.pairwise_map]
          exact HG.out.up.imp fun h => h
      · refine own_base (ht4.row (HCOP.out.rows p (hp.mem_iff.1 hp')) (fun k hk e => ?_)) (by omega : w.heap.size ≤ r + 1)
        exact own_ne (HCOP.out.rows p (hp.mem_iff.1 hp')) HOWN.out (by decide) k hk e.symm
      · exact (hp.filterMap _).nodup_iff.2 HCOP.out.nd
      · refine (ht0.trans HT.out (fun i hi e => ?_)).trans ht4 (fun i hi e => ?_)
        · omega
        · have := hge i e; omega
    · intro key val left' w1 hpl hit1 ht1 hen
      obtain ⟨l1, hp1, he1⟩ := perm_of_map Par.ent hpl todo rfl
      cases l1 with
      | nil => cases he1
      | cons p todo' =>
        simp only [List.map_cons, List.cons.injEq, Par.ent, Par.val, Prod.mk.injEq] at he1
        obtain ⟨⟨rfl, rfl⟩, rfl⟩ := he1
        have hmem : p ∈ ps := hperm.mem_iff.1 (List.mem_append_right _ (hp1.mem_iff.2 (by simp)))
        have T1 := ht.then ht1
        have hrowp := HG.out.rows p hmem
        have hszp := HG.out.sz p hmem
        have hown1 := ht1.row hown (fun k hk e => by have := (hown.lt k hk).1; omega)
        have hcop1 : Copies w1 (r + 1) fs := ⟨fun q hq => ht1.row (hcop.rows q hq) (fun k hk e => by have := ((hcop.rows q hq).lt k hk).1; omega), hcop.nd⟩
        have hrow1 := T1.row (ht0.row hrowp (fun _ _ h => h)) (fun k hk e => by have := (hrowp.lt k hk).2; have := HR.out; omega)
        have hlen : todo.length = todo'.length + 1 := by simpa using hp1.length_eq
        have hfl : fs.length + todo.length = ps.length := by
          have h1 := congrArg List.length htold
          have h2 := hperm.length_eq
          simp at h1 h2
          omega
        have hlr := hit1.lt
        obtain ⟨no, frm, to, bs, pv⟩ := p
        simp only at hrow1 hszp hrowp
        obtain ⟨Ap, cp, rfl, hcp1, hcp2⟩ := own_form hrow1
        clear hcp1 hcp2
        simp only at hen
        have HC := Lib.hid hcop1
        have HW := Lib.hid hown1
        clear hcop1 hown1
        have HP := Lib.hid hperm
        have HT := Lib.hid htold
        have HP1 := Lib.hid hp1
        have HLEN := Lib.hid hlen
        have HFL := Lib.hid hfl
        clear hperm htold hp1 hlen hfl hpl hown hcop hit ht ht1 hrowp hmem hrun
        have W2T : Tch None_ w1 (w1.alloc (.cells #[.int .i64 no, .int .i64 frm, .int .i64 to, .slice Ap bs.length cp] 31)) := (Tch.refl _ _).alloc _
        have HO := Lib.hid (own_any no frm to bs.length cp w1.heap.size Ap bs (w1.alloc (.cells #[.int .i64 no, .int .i64 frm, .int .i64 to, .slice Ap bs.length cp] 31)) W2T.size ((Reads.of_own hrow1).tch W2T (Nat.le_refl _) (fun _ _ h => h)) hszp)
        clear hrow1
        go_wp2_with fail
        refine HO.out.mono ?_
        rintro e w3 ⟨v2, rfl, hown3, T3⟩
        have TT := W2T.then T3
        have hu3 := TT.row HW.out (fun _ _ h => h)
        have hox := hu3.alloc (.cells #[.int .i64 no, .int .i64 frm, .int .i64 to, v2] 31)
        have hl3 : r < w3.heap.size := Nat.lt_of_lt_of_le hlr TT.size
        obtain ⟨A2, c2, rfl, hcc1, hcc2⟩ := own_form hown3
        clear hcc1 hcc2 HO
        have hf48 : (fs.length + 1) * 48 ≤ 140737488355328 := by have := HFL.out; have := HLEN.out; have := HSZ.out; omega
        have hfm : fs.length + 1 ≤ maxLen := by simp only [maxLen]; omega
        go_wp2_with (at_builtin; refine wpList_append_any _ rfl (.tmp 15) (.tmp 18) 39 rfl (r + 1) 31 i0 (.agg #[.int .i64 0, .int .i64 0, .int .i64 0, .slice none 0 0]) 4 48 Try.underlying39 hi hz0 hz1 hz2 rfl (by omega) _ _ _ rfl hox (w3.heap.size + 1) (some ⟨w3.heap.size, 0, none⟩) 1 1 [.int .i64 no, .int .i64 frm, .int .i64 to, .slice A2 bs.length c2] rfl ⟨rfl, fun _ => ⟨_, rfl, by simp, fun j u hu => by rw [add_plain, cell_of_row _ _ _ _ _ (0, 0) (heap_alloc_new w3 _)]; simpa using hu⟩⟩ (by simp [Value.oneCell']) hfm hf48 (by simp; omega) ?_)
        intro v4 w4 hown4 hg4 hat4
        have S34 : Tch (fun k => some k = u3.ownBlock) w3 w4 := ((Tch.refl _ _).alloc _).grown hg4 (fun k hk => .inl hk.symm)
        have S14 : Tch (fun k => some k = u3.ownBlock) w1 w4 := TT.any.then S34
        have S04 : Tch (fun j => j = r) w0 w4 := T1.trans S14 (fun j hj e => by have := (hu3.lt j e.symm).1; omega)
        have hit4 := hit1.tch S14 (fun e => by have := (hu3.lt r e.symm).1; omega) (fun e => by have := (hu3.lt mb e.symm).1; omega)
        have hrow4 := own_base (base' := r + 1) (S34.row hown3 (own_ne hown3 hu3 (by decide))) (by simp; omega)
        have hcop4 : Copies w4 (r + 1) (fs ++ [⟨no, frm, to, bs, .slice A2 bs.length c2⟩]) := by
          refine ⟨fun q hq => ?_, ?_⟩
          · rcases List.mem_append.1 hq with hq | hq
            · exact S14.row (HC.out.rows q hq) (own_ne (HC.out.rows q hq) HW.out (by decide))
            · have := List.mem_singleton.1 hq
              subst this
              exact hrow4
          · unfold blks
            rw [List.filterMap_append, List.nodup_append]
            refine ⟨HC.out.nd, ?_, ?_⟩
            · cases A2 <;> simp [Value.ownBlock, List.filterMap]
            · intro j hj j' hj' e
              obtain ⟨q, hq, hk⟩ := List.mem_filterMap.1 hj
              have l1 := ((HC.out.rows q hq).lt j hk).2
              obtain ⟨q', hq', hk'⟩ := List.mem_filterMap.1 hj'
              have := List.mem_singleton.1 hq'
              subst this
              have l2 := (hown3.lt j' hk').1
              simp at l2
              omega
        have hown4' : w4.ownsRow (r + 1) 31 4 v4 (fs ++ [(⟨no, frm, to, bs, .slice A2 bs.length c2⟩ : Par)]).length ((fs ++ [(⟨no, frm, to, bs, .slice A2 bs.length c2⟩ : Par)]).flatMap Par.cells) := by
          simpa [Par.cells] using hown4
        clear hown4 hg4 hat4 hrow4 S34 S14 hown3 hox hu3 T3 hen
        go_wp2_with fail
        go_roundg todo'.length
        case measure => have := HLEN.out; omega
        case rel =>
          refine ⟨todo', outp ++ [⟨no, frm, to, bs, .slice Ap bs.length cp⟩], _, hit4, rfl, ?_, ?_, hown4', hcop4, S04⟩
          · rw [List.append_assoc]
            exact (HP1.out.append_left outp).symm.trans HP.out
          · rw [List.map_append, List.map_append, HT.out]
            rfl
end Go.Proofs.Ytpjlfmaebkjojaa
