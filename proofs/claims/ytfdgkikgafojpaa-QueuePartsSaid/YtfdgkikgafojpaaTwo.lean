/-
  No statement is proved here: a queue and its clone, one beside the other.
-/
import Derived.Test.YtfdgkikgafojpaaQclone
namespace Go.Proofs.Ytfdgkikgafojpaa
open Go.RowKit Go.Maps

/-- Two queues: the first one's blocks lie below N, the other's from N on. -/
structure TwoAt (w1 w : World) (N g mb : Nat) (v : Value) (s : List Ent) (g2 mb2 : Nat) (v2 : Value) (s2 : List Ent) : Prop where
  q : QF w1 w g mb v s
  c : QS w g2 mb2 v2 s2
  g : g < N
  m : mb < N
  v : ∀ k, v.ownBlock = some k → k < N
  g2 : N ≤ g2
  m2 : N ≤ mb2
  v2 : ∀ k, v2.ownBlock = some k → N ≤ k
  le : w1.heap.size ≤ N
section
variable {w1 w w' : World} {N g mb : Nat} {v v' : Value} {s s' : List Ent} {g2 mb2 : Nat} {v2 v2' : Value} {s2 s2' : List Ent}
theorem TwoAt.start (h : QF w1 w g mb v s) (hc : QF w w' g2 mb2 v2 s) : TwoAt w1 w' w.heap.size g mb v s g2 mb2 v2 s :=
  ⟨h.keep hc.t, hc.q, h.q.glt, h.q.mlt, h.q.vlt, hc.hg, hc.hm, hc.hv, h.t.size⟩
theorem TwoAt.keep (h : TwoAt w1 w N g mb v s g2 mb2 v2 s2) (ht : Tch None_ w w') : TwoAt w1 w' N g mb v s g2 mb2 v2 s2 :=
  ⟨h.q.keep ht, h.c.keep ht, h.g, h.m, h.v, h.g2, h.m2, h.v2, h.le⟩
theorem TwoAt.low (h : TwoAt w1 w N g mb v s g2 mb2 v2 s2) {k : Nat} (hk : N ≤ k) : ¬ QTch g mb v k := by
  have := h.g
  have := h.m
  rintro ((e | e) | e)
  · omega
  · omega
  · have := h.v k e; omega
theorem TwoAt.high (h : TwoAt w1 w N g mb v s g2 mb2 v2 s2) {k : Nat} (hk : k < N) : ¬ QTch g2 mb2 v2 k := by
  have := h.g2
  have := h.m2
  rintro ((e | e) | e)
  · omega
  · omega
  · have := h.v2 k e; omega
theorem TwoAt.turn (h : TwoAt w1 w N g mb v s g2 mb2 v2 s2) (hq : QS w' g mb v' s') (ht : Tch (QTch g mb v) w w') (hv : v'.ownBlock = v.ownBlock) : TwoAt w1 w' N g mb v' s' g2 mb2 v2 s2 :=
  ⟨h.q.turn hq ht (.inl hv), h.c.tch ht (h.low h.g2) (h.low h.m2) (fun k hk => h.low (h.v2 k hk)), h.g, h.m, fun k hk => h.v k (hv ▸ hk), h.g2, h.m2, h.v2, h.le⟩
theorem TwoAt.turn2 (h : TwoAt w1 w N g mb v s g2 mb2 v2 s2) (hq : QS w' g2 mb2 v2' s2') (ht : Tch (QTch g2 mb2 v2) w w') (hv : v2'.ownBlock = v2.ownBlock) : TwoAt w1 w' N g mb v s g2 mb2 v2' s2' :=
  ⟨h.q.tch ht (h.high h.g) (h.high h.m) (fun k hk => h.high (h.v k hk)) (fun i hi => h.high (Nat.lt_of_lt_of_le hi h.le)), hq, h.g, h.m, h.v, h.g2, h.m2, fun k hk => h.v2 k (hv ▸ hk), h.le⟩
theorem TwoAt.out (h : TwoAt w1 w N g mb v s g2 mb2 v2 s2) {k : Nat} (hk : w.heap.size ≤ k) : ¬ QTch g mb v k := by
  have := h.q.q.glt
  have := h.q.q.mlt
  rintro ((e | e) | e)
  · omega
  · omega
  · have := h.q.q.vlt k e; omega
theorem TwoAt.out2 (h : TwoAt w1 w N g mb v s g2 mb2 v2 s2) {k : Nat} (hk : w.heap.size ≤ k) : ¬ QTch g2 mb2 v2 k := by
  have := h.c.glt
  have := h.c.mlt
  rintro ((e | e) | e)
  · omega
  · omega
  · have := h.c.vlt k e; omega
end
theorem TwPop (w1 : World) (N g mb : Nat) (v : Value) (e : Ent) (s : List Ent) (g2 mb2 : Nat) (v2 : Value) (s2 : List Ent) (w : World) (h : TwoAt w1 w N g mb v (e :: s) g2 mb2 v2 s2) :
    Calls Try.prog 11 #[.pointer (some ⟨g, 0, none⟩)] w fun x w' => ∃ v', x = .returned (.tuple #[e.val, .bool true]) ∧ TwoAt w1 w' N g mb v' s g2 mb2 v2 s2 ∧ Tch (QTch g mb v) w w' :=
  (QsPop_some g mb v e s w h.q.q).mono fun _ _ ⟨v', h1, h2, h3, h4⟩ => ⟨v', h1, h.turn h2 h3 h4, h3⟩
theorem TwPop2 (w1 : World) (N g mb : Nat) (v : Value) (s : List Ent) (g2 mb2 : Nat) (v2 : Value) (e : Ent) (s2 : List Ent) (w : World) (h : TwoAt w1 w N g mb v s g2 mb2 v2 (e :: s2)) :
    Calls Try.prog 11 #[.pointer (some ⟨g2, 0, none⟩)] w fun x w' => ∃ v2', x = .returned (.tuple #[e.val, .bool true]) ∧ TwoAt w1 w' N g mb v s g2 mb2 v2' s2 ∧ Tch (QTch g2 mb2 v2) w w' ∧ v2'.ownBlock = v2.ownBlock :=
  (QsPop_some g2 mb2 v2 e s2 w h.c).mono fun _ _ ⟨v', h1, h2, h3, h4⟩ => ⟨v', h1, h.turn2 h2 h3 h4, h3, h4⟩
end Go.Proofs.Ytfdgkikgafojpaa
