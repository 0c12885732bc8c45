/-
  No statement is proved here: maps in memory, told by their entries (laws on look-up, store, delete, len and range).
-/
import Derived.Test.YtfdgkikgafojpaaLib
import Derived.Maps.OwnSet
import Derived.Maps.OwnOps
import Derived.Maps.RangeWalk
namespace Go.Proofs.Ytfdgkikgafojpaa
open Go.RowKit Go.Maps Go.ChangeShapes
open Go.ChangeMaps (setBlock heap_setBlock_same heap_setBlock_other)

/-- Block b is a map whose entries are L (keys and values, in the order in which they came). -/
def MapAt (P : Program) (k : TypeId) (w : World) (b : Nat) (L : List (Value × Value)) : Prop :=
  ∃ es clock, w.heap[b]? = some (.map es clock) ∧ es.toList.map (fun e => (e.key, e.val)) = L ∧ (L.map (·.1)).Nodup ∧ (∀ p ∈ L, ∃ l, keyOf P k p.1 = some l) ∧
    (∀ e ∈ es.toList, e.born < clock) ∧ (es.toList.map (·.born)).Nodup

theorem Reads.at_tch {w w' : World} {S : Nat → Prop} {B size n : Nat} {A : Option Addr} {xs : List Value} (h : Reads w B size A n xs) (ht : Tch S w w') (hB : B ≤ w.heap.size) (hA : ∀ ad, A = some ad → ¬ S ad.block) : Reads w' B size A n xs :=
  ⟨h.1, fun hn => by
    obtain ⟨ad, e, hb, hc⟩ := h.2 hn
    refine ⟨ad, e, hb, fun j u hu => ?_⟩
    rw [ht.cell (by rw [block_of_add]; omega) (by rw [block_of_add]; exact hA ad e)]
    exact hc j u hu⟩
section
variable {P : Program} {k : TypeId} {w w' : World} {b : Nat} {L : List (Value × Value)}
theorem MapAt.lt (h : MapAt P k w b L) : b < w.heap.size := by
  obtain ⟨es, c, hb, _⟩ := h
  exact (Array.getElem?_eq_some_iff.1 hb).1
theorem MapAt.tch {S : Nat → Prop} (h : MapAt P k w b L) (ht : Tch S w w') (hs : ¬ S b) : MapAt P k w' b L := by
  have hlt := h.lt
  obtain ⟨es, c, hb, r⟩ := h
  exact ⟨es, c, (ht.block b hlt hs).trans hb, r⟩
theorem MapAt.keep (h : MapAt P k w b L) (ht : Tch None_ w w') : MapAt P k w' b L := h.tch ht fun h => h
theorem MapAt.made (w : World) : MapAt P k (w.alloc (.map #[] 0)) w.heap.size [] :=
  ⟨#[], 0, heap_alloc_new w _, rfl, by simp, by simp, by simp, by simp⟩
theorem MapAt.ne_blk (h : MapAt P k w b L) {g : Nat} {t : TypeId} {cs : Array Value} (hg : Blk w g t cs) : g ≠ b := by
  rintro rfl
  obtain ⟨es, c, hb, _⟩ := h
  unfold Blk at hg
  rw [hg] at hb
  cases hb
theorem MapAt.ne_own (h : MapAt P k w b L) {base : Nat} {e : TypeId} {size n : Nat} {v : Value} {xs : List Value} (ho : w.ownsRow base e size v n xs) : ∀ j, v.ownBlock = some j → j ≠ b := by
  intro j hj
  rcases ho.2 with ⟨rfl, _⟩ | ⟨g, cap, cur, rfl, _, hh, _⟩
  · simp [Value.ownBlock] at hj
  · simp [Value.ownBlock] at hj
    subst hj
    exact h.ne_blk (t := e) hh
theorem tch_setBlock {es : Array MapEntry} {c : Nat} {o' : Obj} (hb : w.heap[b]? = some (.map es c)) : Tch (fun j => j = b) w (setBlock w b o') :=
  ⟨rfl, rfl, rfl, by simp [setBlock], fun j _ hj => heap_setBlock_other hb _ hj⟩

theorem mem_entry {es : Array MapEntry} {p : Value × Value} (h : p ∈ es.toList.map (fun e => (e.key, e.val))) : ∃ e ∈ es.toList, e.key = p.1 ∧ e.val = p.2 := by
  obtain ⟨e, he, rfl⟩ := List.mem_map.1 h
  exact ⟨e, he, rfl, rfl⟩
theorem entry_mem {es : Array MapEntry} {e : MapEntry} (h : e ∈ es.toList) : (e.key, e.val) ∈ es.toList.map (fun e => (e.key, e.val)) := List.mem_map.2 ⟨e, h, rfl⟩
theorem nodup_key {L : List (Value × Value)} (h : (L.map (·.1)).Nodup) {p q : Value × Value} (hp : p ∈ L) (hq : q ∈ L) (e : p.1 = q.1) : p = q := by
  induction L with
  | nil => cases hp
  | cons a l ih =>
    simp only [List.map_cons, List.nodup_cons] at h
    rcases List.mem_cons.1 hp with hp' | hp' <;> rcases List.mem_cons.1 hq with hq' | hq'
    · rw [hp', hq']
    · exact absurd (List.mem_map.2 ⟨q, hq', by rw [← e, hp']⟩) h.1
    · exact absurd (List.mem_map.2 ⟨p, hp', by rw [e, hq']⟩) h.1
    · exact ih h.2 hp' hq'

theorem MapAt.keys (h : MapAt P k w b L) : (L.map (·.1)).Nodup := by obtain ⟨_, _, _, _, hn, _⟩ := h; exact hn

theorem MapAt.look (c : Bool) (h : MapAt P k w b L) (K : Keyed P k) {t e : TypeId} (ht : P.underlying t = some (.map k e)) {z : Value} (hz : (zeroValue e).run P w = .ok z w) {key : Value} {kl : Lit} (hkey : keyOf P k key = some kl) :
    ((∀ p ∈ L, p.1 ≠ key) → (Instr.lookup t (.map (some b)) key c).run P w = .ok (if c then .tuple #[z, .bool false] else z) w) ∧
    (∀ v, (key, v) ∈ L → (Instr.lookup t (.map (some b)) key c).run P w = .ok (if c then .tuple #[v, .bool true] else v) w) := by
  obtain ⟨es, clock, hb, hL, hn, hk, _, _⟩ := h
  rcases K.find w hkey es.toList (fun e he => hk (e.key, e.val) (hL ▸ entry_mem he)) with ⟨h1, h2⟩ | ⟨j, e0, h1, h2, h3⟩
  · constructor
    · intro _
      simp [Instr.lookup, run_underlying ht, MapKept.run_getObj_map hb, K.check w _ hkey, h1, hz, Result.andThen]
    · intro v hv
      rw [← hL] at hv
      obtain ⟨e, he, hek, _⟩ := mem_entry hv
      exact absurd hek (h2 e he)
  · have hm : e0 ∈ es.toList := List.mem_of_getElem? h2
    constructor
    · intro hno
      exact absurd h3 (hno (e0.key, e0.val) (hL ▸ entry_mem hm))
    · intro v hv
      have : (e0.key, e0.val) = (key, v) := nodup_key hn (hL ▸ entry_mem hm) hv h3
      simp only [Prod.mk.injEq] at this
      simp [Instr.lookup, run_underlying ht, MapKept.run_getObj_map hb, K.check w _ hkey, h1, Result.andThen, this.2]

theorem MapAt.put_new (h : MapAt P k w b L) (K : Keyed P k) {t e : TypeId} (ht : P.underlying t = some (.map k e)) {key val : Value} {kl : Lit} (hkey : keyOf P k key = some kl) (hno : ∀ p ∈ L, p.1 ≠ key) :
    ∃ w', (Instr.mapUpdate t (.map (some b)) key val).run P w = .ok () w' ∧ MapAt P k w' b (L ++ [(key, val)]) ∧ Tch (fun j => j = b) w w' ∧ w'.heap.size = w.heap.size := by
  obtain ⟨es, clock, hb, hL, hn, hk, hborn, hnb⟩ := h
  rcases K.find w hkey es.toList (fun e he => hk (e.key, e.val) (hL ▸ entry_mem he)) with ⟨h1, h2⟩ | ⟨j, e0, h1, h2, h3⟩
  · refine ⟨setBlock w b (.map (es.push ⟨key, val, clock⟩) (clock + 1)), ?_, ⟨_, _, heap_setBlock_same hb _, by simp [hL], ?_, ?_, ?_, ?_⟩, tch_setBlock hb, by simp [setBlock]⟩
    · simp [Instr.mapUpdate, run_underlying ht, MapKept.run_getObj_map hb, K.check w false hkey, h1, MapKept.run_setObj_map _ hb, Result.andThen, setBlock]
    · rw [List.map_append, List.nodup_append]
      refine ⟨hn, by simp, ?_⟩
      intro a ha c hc
      simp at hc
      subst hc
      obtain ⟨p, hp, rfl⟩ := List.mem_map.1 ha
      exact hno p hp
    · intro p hp
      rcases List.mem_append.1 hp with hp | hp
      · exact hk p hp
      · simp at hp; subst hp; exact ⟨kl, hkey⟩
    · intro e he
      simp at he
      rcases he with he | rfl
      · have := hborn e (by simpa using he); omega
      · simp
    · simp only [Array.toList_push, List.map_append, List.map_cons, List.map_nil]
      rw [List.nodup_append]
      refine ⟨hnb, by simp, ?_⟩
      intro a ha c hc
      simp at hc
      obtain ⟨e, he, rfl⟩ := List.mem_map.1 ha
      have := hborn e he
      omega
  · have hm : e0 ∈ es.toList := List.mem_of_getElem? h2
    exact absurd h3 (hno (e0.key, e0.val) (hL ▸ entry_mem hm))

theorem MapAt.del_hit (h : MapAt P k w b L) (K : Keyed P k) {t e : TypeId} (ht : P.underlying t = some (.map k e)) {key v : Value} {kl : Lit} (hkey : keyOf P k key = some kl) (ty : TypeId) {L1 L2 : List (Value × Value)} (hL' : L = L1 ++ (key, v) :: L2) :
    ∃ w', (Builtin.delete_ #[t, k] ty #[.map (some b), key]).run P w = .ok (.tuple #[]) w' ∧ MapAt P k w' b (L1 ++ L2) ∧ Tch (fun j => j = b) w w' ∧ w'.heap.size = w.heap.size := by
  obtain ⟨es, clock, hb, hL, hn, hk, hborn, hnb⟩ := h
  rcases K.find w hkey es.toList (fun e he => hk (e.key, e.val) (hL ▸ entry_mem he)) with ⟨h1, h2⟩ | ⟨j, e0, h1, h2, h3⟩
  · have hv : (key, v) ∈ es.toList.map (fun e => (e.key, e.val)) := by rw [hL, hL']; simp
    obtain ⟨e, he, hek, _⟩ := mem_entry hv
    exact absurd hek (h2 e he)
  · have hjl : j < es.toList.length := (List.getElem?_eq_some_iff.1 h2).1
    have hjs : j < es.size := by simpa using hjl
    have hsub : (es.eraseIdxIfInBounds j).toList = es.toList.eraseIdx j := by
      unfold Array.eraseIdxIfInBounds
      rw [dif_pos hjs]
      simp
    have hjL : L[j]? = some (key, e0.val) := by rw [← hL, List.getElem?_map, h2, ← h3]; rfl
    have hj1 : j = L1.length := by
      have e1 : L[L1.length]? = some (key, v) := by rw [hL']; simp
      have hjlt := (List.getElem?_eq_some_iff.1 hjL).1
      have hllt := (List.getElem?_eq_some_iff.1 e1).1
      have hk1 : (L.map (·.1))[j]'(by simpa using hjlt) = (L.map (·.1))[L1.length]'(by simpa using hllt) := by
        rw [List.getElem_map, List.getElem_map]
        have a1 : L[j] = (key, e0.val) := by have := List.getElem?_eq_getElem hjlt; rw [this] at hjL; simpa using hjL
        have a2 : L[L1.length] = (key, v) := by have := List.getElem?_eq_getElem hllt; rw [this] at e1; simpa using e1
        rw [a1, a2]
      exact (List.getElem_inj hn).1 hk1
    have hLe : L.eraseIdx j = L1 ++ L2 := by
      rw [hL', hj1, List.eraseIdx_append_of_length_le (Nat.le_refl _)]
      simp
    refine ⟨setBlock w b (.map (es.eraseIdxIfInBounds j) clock), ?_, ⟨_, _, heap_setBlock_same hb _, ?_, ?_, ?_, ?_, ?_⟩, tch_setBlock hb, by simp [setBlock]⟩
    · simp [Builtin.delete_, run_underlying ht, MapKept.run_getObj_map hb, K.check w _ hkey, h1, MapKept.run_setObj_map _ hb, Result.andThen, setBlock]
    · rw [hsub, ← hLe, ← hL, Go.ChangeMaps.map_eraseIdx]
    · rw [← hLe, Go.ChangeMaps.map_eraseIdx]; exact hn.sublist (List.eraseIdx_sublist _ _)
    · intro p hp
      rw [← hLe] at hp
      exact hk p ((List.eraseIdx_sublist _ _).subset hp)
    · intro e he
      rw [hsub] at he
      exact hborn e ((List.eraseIdx_sublist _ _).subset he)
    · rw [hsub, Go.ChangeMaps.map_eraseIdx]; exact hnb.sublist (List.eraseIdx_sublist _ _)

theorem MapAt.len (h : MapAt P k w b L) {t e : TypeId} (ht : P.underlying t = some (.map k e)) (ty : TypeId) : (Builtin.len_ #[t] ty #[.map (some b)]).run P w = .ok (.int .i64 L.length) w := by
  obtain ⟨es, clock, hb, hL, _⟩ := h
  rw [← hL]
  simp [Builtin.len_, run_underlying ht, MapKept.run_getObj_map hb, goInt, Result.andThen]
end

section
variable {P : Program} (w : World) {ops : Array Oper} {rest : List Oper} {o : Oper} {a : Act} {Q : Exit → Act → World → Prop}
/-- a look-up whose run is known -/
theorem wpList_lookup_run (hg : o.guard = none) (m x : Operand) (t : TypeId) (c : Bool) (hop : o.op = Op.lookup t m x c) (mv key v : Value) (hm : a.eval m = mv) (hx : a.eval x = key)
    (hrun : (Instr.lookup t mv key c).run P w = .ok v w) (hK : wpList P ops Q rest (a.put o.dst v) w) : wpList P ops Q (o :: rest) a w := by
  refine wpList_plain hg fun K' hK' => ?_
  unfold Oper.wp
  simp [execOp, hop, hm, hx, hrun, Result.andThen]
  exact hK' _ _ hK
theorem wpList_update_run (hg : o.guard = none) (m x v : Operand) (t : TypeId) (hop : o.op = Op.mapUpdate t m x v) (mv key val : Value) (hm : a.eval m = mv) (hx : a.eval x = key) (hv : a.eval v = val) (w' : World)
    (hrun : (Instr.mapUpdate t mv key val).run P w = .ok () w') (hK : wpList P ops Q rest (a.put o.dst undef) w') : wpList P ops Q (o :: rest) a w := by
  refine wpList_plain hg fun K' hK' => ?_
  unfold Oper.wp
  simp [execOp, hop, hm, hx, hv, hrun, Result.andThen]
  exact hK' _ _ hK
theorem wpList_delete_run (hg : o.guard = none) (m x : Operand) (t k : TypeId) (hop : o.op = Op.call { callee := Callee.builtin Builtin.delete, args := #[m, x], argTypes := #[t, k] }) (mv key : Value) (hm : a.eval m = mv) (hx : a.eval x = key) (w' : World)
    (hrun : (Builtin.delete_ #[t, k] o.type #[mv, key]).run P w = .ok (.tuple #[]) w') (hK : wpList P ops Q rest (a.put o.dst (.tuple #[])) w') : wpList P ops Q (o :: rest) a w := by
  refine wpList_plain hg fun K' hK' => ?_
  unfold Oper.wp
  simp [execOp, hop, resolve, invoke, builtin, hm, hx, hrun, Result.andThen]
  exact hK' _ _ hK
end
end Go.Proofs.Ytfdgkikgafojpaa
