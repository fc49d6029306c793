/- Words for memory: what turns, blocks that are known whole, maps with whole numbers as keys. No program in it. -/
import Derived.Below
import Derived.Laws.OwnMore
import Derived.Deep.Draws
import Derived.Laws.Rows
import Derived.Lib.Hide
import Derived.WalkKit
import Derived.KernelRfl
import Derived.MapKept
import Derived.Tactics
import Derived.Maps.Own
namespace Go.Proofs.Ytliakkpmmmgmhaa
open Go.RowKit

/-! ### what turns -/
/-- From w to w' no block that was there turns, but those of S. -/
structure Turned (S : Nat → Prop) (w w' : World) : Prop where
  os : w'.os = w.os
  tape : w'.tape = w.tape
  output : w'.output = w.output
  size : w.heap.size ≤ w'.heap.size
  block : ∀ k, k < w.heap.size → ¬ S k → w'.heap[k]? = w.heap[k]?

section
variable {S S' : Nat → Prop} {w w1 w2 : World}
theorem Turned.refl (S : Nat → Prop) (w : World) : Turned S w w := ⟨rfl, rfl, rfl, Nat.le_refl _, fun _ _ _ => rfl⟩
theorem Turned.more (h : Turned S w w1) (hs : ∀ k, k < w.heap.size → S k → S' k) : Turned S' w w1 := ⟨h.os, h.tape, h.output, h.size, fun k hk hn => h.block k hk (fun x => hn (hs k hk x))⟩
theorem Turned.trans (h : Turned S w w1) (k : Turned S' w1 w2) (hs : ∀ k, k < w.heap.size → S' k → S k) : Turned S w w2 :=
  ⟨k.os.trans h.os, k.tape.trans h.tape, k.output.trans h.output, Nat.le_trans h.size k.size, fun i hi hn => (k.block i (Nat.lt_of_lt_of_le hi h.size) (fun x => hn (hs i hi x))).trans (h.block i hi hn)⟩
theorem Turned.drew (h : Turned S w w1) : Turned S w w1.drew := ⟨h.os, h.tape, h.output, h.size, h.block⟩
theorem Turned.drewN (h : Turned S w w1) (n : Nat) : Turned S w (w1.drewN n) := ⟨h.os, h.tape, h.output, h.size, h.block⟩
theorem Turned.alloc (h : Turned S w w1) (o : Obj) : Turned S w (w1.alloc o) :=
  h.trans (S' := fun _ => False) ⟨rfl, rfl, rfl, by simp, fun k hk _ => Below.heap_alloc _ _ _ hk⟩ (fun _ _ x => x.elim)
theorem Turned.setCell (h : Turned S w w1) {p : Addr} (hp : p.block < w.heap.size → S p.block) (u : Value) : Turned S w (w1.setCell p u) :=
  h.trans (S' := fun k => k = p.block) ⟨rfl, rfl, rfl, by simp [World.setCell], fun k _ hne => Below.heap_setCell _ _ _ _ hne⟩ (fun k hk e => by subst e; exact hp hk)
theorem Turned.of_below (h : Below w.heap.size w w1) : Turned S w w1 := ⟨h.os, h.tape, h.output, h.size, fun k hk _ => h.block k hk⟩
theorem Turned.below (h : Turned (fun _ => False) w w1) : Below w.heap.size w w1 := ⟨h.os, h.tape, h.output, h.size, fun k hk => h.block k hk id⟩
theorem Turned.of_grown {row : Option Nat} (h : w.grownBy w1 row) (hs : ∀ k, row = some k → k < w.heap.size → S k) : Turned S w w1 :=
  ⟨h.os, h.tape, h.output, h.size, fun k hk hn => h.block k hk (fun e => hn (hs k e.symm hk))⟩
theorem Turned.grown {row : Option Nat} (h : Turned S w w1) (hg : w1.grownBy w2 row) (hs : ∀ k, row = some k → k < w.heap.size → S k) : Turned S w w2 :=
  ⟨hg.os.trans h.os, hg.tape.trans h.tape, hg.output.trans h.output, Nat.le_trans h.size hg.size, fun i hi hn => (hg.block i (Nat.lt_of_lt_of_le hi h.size) (fun e => hn (hs i e.symm hi))).trans (h.block i hi hn)⟩
theorem Turned.cell (h : Turned S w w1) {p : Addr} {v : Value} (hc : w.cell? p = some v) (hn : ¬ S p.block) : w1.cell? p = some v :=
  (World.cell?_of_block (h.block p.block (World.block_lt_of_cell? w p hc) hn)).trans hc
end

/-! ### a block that is known whole -/
def Blk (w : World) (g : Nat) (t : TypeId) (cs : Array Value) : Prop := w.heap[g]? = some (.cells cs t (0, 0))
section
variable {w w' : World} {g : Nat} {t : TypeId} {cs : Array Value}
theorem Blk.lt (h : Blk w g t cs) : g < w.heap.size := by
  rcases Nat.lt_or_ge g w.heap.size with hlt | hge
  · exact hlt
  · unfold Blk at h; rw [Array.getElem?_eq_none hge] at h; cases h
theorem Blk.cell (h : Blk w g t cs) (i : Nat) : w.cell? ⟨g, i, none⟩ = cs[i]? := cell_of_row w g i cs t (0, 0) h
theorem Blk.frozen (h : Blk w g t cs) (i : Nat) : w.frozen? ⟨g, i, none⟩ = false := by
  unfold Blk at h
  simp [World.frozen?, h]
theorem Blk.new (w : World) (t : TypeId) (cs : Array Value) : Blk (w.alloc (.cells cs t)) w.heap.size t cs := heap_alloc_new w _
theorem Blk.drew (h : Blk w g t cs) : Blk w.drew g t cs := h
theorem Blk.drewN (h : Blk w g t cs) (n : Nat) : Blk (w.drewN n) g t cs := h
theorem Blk.alloc (h : Blk w g t cs) (o : Obj) : Blk (w.alloc o) g t cs := (Below.heap_alloc w o g h.lt).trans h
theorem Blk.set_ (h : Blk w g t cs) (i : Nat) (u : Value) : Blk (w.setCell ⟨g, i, none⟩ u) g t (cs.setIfInBounds i u) := by
  unfold Blk at h ⊢
  simp [World.setCell, Array.getElem?_modify, h]
theorem Blk.far (h : Blk w g t cs) {p : Addr} (hp : g ≠ p.block) (u : Value) : Blk (w.setCell p u) g t cs := (Below.heap_setCell w p u g hp).trans h
theorem Blk.below {B : Nat} (h : Blk w g t cs) (hb : Below B w w') (hg : g < B) : Blk w' g t cs := (hb.block g hg).trans h
theorem Blk.turned {S : Nat → Prop} (h : Blk w g t cs) (hb : Turned S w w') (hg : ¬ S g) : Blk w' g t cs := (hb.block g h.lt hg).trans h
theorem Blk.ne_ {g' : Nat} {t' : TypeId} {cs' : Array Value} (h : Blk w g t cs) (h' : Blk w g' t' cs') (hne : t ≠ t') : g ≠ g' := by
  rintro rfl
  unfold Blk at h h'
  rw [h] at h'
  injection h' with h'
  injection h' with _ ht
  exact hne ht
end

theorem cell_far {w : World} {p q : Addr} {u v : Value} (h : w.cell? q = some v) (hne : q.block ≠ p.block) : (w.setCell p u).cell? q = some v := by
  rw [World.cell?_setCell_other w p q u (fun e => hne (by rw [e]))]; exact h

/-! ### a map whose keys are whole numbers -/
def mget (m : List (Int × Value)) (n : Int) : Option Value := (m.find? (fun x => x.1 == n)).map (·.2)
def mput (m : List (Int × Value)) (n : Int) (v : Value) : List (Int × Value) :=
  if m.any (fun x => x.1 == n) then m.map (fun x => if x.1 == n then (n, v) else x) else m ++ [(n, v)]
def mdel (m : List (Int × Value)) (n : Int) : List (Int × Value) := m.filter (fun x => !(x.1 == n))

theorem mget_none {m : List (Int × Value)} {n : Int} : mget m n = none ↔ ∀ x ∈ m, x.1 ≠ n := by
  unfold mget; simp
theorem mget_some_mem {m : List (Int × Value)} {n : Int} {v : Value} (h : mget m n = some v) : (n, v) ∈ m := by
  unfold mget at h
  obtain ⟨x, hx, rfl⟩ := Option.map_eq_some_iff.1 h
  have h1 := List.find?_some hx
  have h2 := List.mem_of_find?_eq_some hx
  simp at h1; subst h1; exact h2
theorem mget_put (m : List (Int × Value)) (n k : Int) (v : Value) : mget (mput m n v) k = if k = n then some v else mget m k := by
  induction m with
  | nil => by_cases h : k = n <;> simp [mput, mget, h]; intro e; exact absurd e.symm h
  | cons x m ih =>
    unfold mput mget at *
    by_cases hx : x.1 = n
    · have : (x :: m).any (fun x => x.1 == n) = true := by simp [hx]
      rw [if_pos this]
      by_cases h : k = n
      · subst h; simp [hx]
      · simp only [List.map_cons, hx, beq_self_eq_true, if_true, if_neg h]
        rw [List.find?_cons_of_neg (by simp; exact fun e => h e.symm), List.find?_cons_of_neg (by simp [hx]; exact fun e => h e.symm)]
        congr 1
        clear ih this
        induction m with
        | nil => rfl
        | cons y m ih =>
          simp only [List.map_cons]
          by_cases hy : y.1 = n
          · simp only [hy, beq_self_eq_true, if_true]
            rw [List.find?_cons_of_neg (by simp; exact fun e => h e.symm), List.find?_cons_of_neg (by simp [hy]; exact fun e => h e.symm), ih]
          · have : (y.1 == n) = false := by simpa using hy
            rw [this]; simp only [Bool.false_eq_true, if_false]
            by_cases hyk : y.1 = k
            · rw [List.find?_cons_of_pos (by simpa using hyk), List.find?_cons_of_pos (by simpa using hyk)]
            · rw [List.find?_cons_of_neg (by simpa using hyk), List.find?_cons_of_neg (by simpa using hyk), ih]
    · have hxn : (x.1 == n) = false := by simpa using hx
      have ha : (x :: m).any (fun x => x.1 == n) = m.any (fun x => x.1 == n) := by simp [hxn]
      rw [ha]
      by_cases hm : m.any (fun x => x.1 == n)
      · rw [if_pos hm] at ih ⊢
        simp only [List.map_cons, hxn, Bool.false_eq_true, if_false]
        by_cases hxk : x.1 = k
        · rw [List.find?_cons_of_pos (by simpa using hxk), List.find?_cons_of_pos (by simpa using hxk), if_neg (by rw [← hxk]; exact hx)]
        · rw [List.find?_cons_of_neg (by simpa using hxk), List.find?_cons_of_neg (by simpa using hxk), ih]
      · rw [if_neg hm] at ih ⊢
        simp only [List.cons_append]
        by_cases hxk : x.1 = k
        · rw [List.find?_cons_of_pos (by simpa using hxk), List.find?_cons_of_pos (by simpa using hxk), if_neg (by rw [← hxk]; exact hx)]
        · rw [List.find?_cons_of_neg (by simpa using hxk), List.find?_cons_of_neg (by simpa using hxk), ih]
theorem mget_del (m : List (Int × Value)) (n k : Int) : mget (mdel m n) k = if k = n then none else mget m k := by
  induction m with
  | nil => by_cases h : k = n <;> simp [mdel, mget, h]
  | cons x m ih =>
    unfold mdel mget at *
    by_cases hx : x.1 = n
    · rw [List.filter_cons_of_neg (by simp [hx]), ih]
      by_cases h : k = n
      · simp [h]
      · rw [if_neg h, if_neg h, List.find?_cons_of_neg (by simp [hx]; exact fun e => h e.symm)]
    · rw [List.filter_cons_of_pos (by simpa using hx)]
      by_cases hxk : x.1 = k
      · rw [List.find?_cons_of_pos (by simpa using hxk), List.find?_cons_of_pos (by simpa using hxk), if_neg (by rw [← hxk]; exact hx)]
      · rw [List.find?_cons_of_neg (by simpa using hxk), List.find?_cons_of_neg (by simpa using hxk), ih]

/-- The entries of a map are these, in the order in which they came. -/
def Entries (es : Array MapEntry) (m : List (Int × Value)) : Prop := es.toList.map (fun e => (e.key, e.val)) = m.map (fun x => (Value.int .i64 x.1, x.2))
/-- Block b is a map of these entries. -/
structure IMap (w : World) (b : Nat) (m : List (Int × Value)) : Prop where
  ex : ∃ es clock, w.heap[b]? = some (.map es clock) ∧ Entries es m ∧ (es.toList.map (·.born)).Nodup ∧ ∀ e ∈ es.toList, e.born < clock
  nodup : (m.map (·.1)).Nodup

section
variable {P : Program} {w w' : World} {b : Nat} {m : List (Int × Value)}
theorem IMap.lt (h : IMap w b m) : b < w.heap.size := by
  obtain ⟨es, clock, h1, _⟩ := h.ex
  exact (Array.getElem?_eq_some_iff.1 h1).1
theorem IMap.of_block (h : IMap w b m) (e : w'.heap[b]? = w.heap[b]?) : IMap w' b m := by
  obtain ⟨⟨es, clock, h1, h2⟩, h3⟩ := h
  exact ⟨⟨es, clock, e.trans h1, h2⟩, h3⟩
theorem IMap.turned {S : Nat → Prop} (h : IMap w b m) (k : Turned S w w') (hn : ¬ S b) : IMap w' b m := h.of_block (k.block b h.lt hn)
theorem IMap.alloc (h : IMap w b m) (o : Obj) : IMap (w.alloc o) b m := h.of_block (Below.heap_alloc w o b h.lt)
theorem IMap.setCell (h : IMap w b m) (p : Addr) (u : Value) : IMap (w.setCell p u) b m := by
  by_cases e : b = p.block
  · obtain ⟨⟨es, clock, h1, h2⟩, h3⟩ := h
    refine ⟨⟨es, clock, ?_, h2⟩, h3⟩
    subst e
    simp only [World.setCell, Array.getElem?_modify, h1]
    simp
  · exact h.of_block (Below.heap_setCell w p u b e)
theorem IMap.ne_blk (h : IMap w b m) {g : Nat} {t : TypeId} {cs : Array Value} (k : Blk w g t cs) : b ≠ g := by
  rintro rfl
  obtain ⟨es, clock, h1, _⟩ := h.ex
  unfold Blk at k
  rw [h1] at k; cases k
theorem IMap.made (w : World) : IMap (w.alloc (.map #[] 0)) w.heap.size [] :=
  ⟨⟨#[], 0, heap_alloc_new w _, rfl, by simp, by simp⟩, by simp⟩

theorem findNow_int (n : Int) : ∀ (l : List MapEntry) (m : List (Int × Value)) (i : Nat), l.map (fun e => (e.key, e.val)) = m.map (fun x => (Value.int .i64 x.1, x.2)) →
    Instr.findNow (.int .i64) (.int .i64 n) l i = some ((m.findIdx? (fun x => x.1 == n)).map (fun j => (i + j, (mget m n).getD undef)))
  | [], [], i, _ => rfl
  | [], _ :: _, _, h => by simp at h
  | _ :: _, [], _, h => by simp at h
  | e :: l, x :: m, i, h => by
    simp only [List.map_cons, List.cons.injEq, Prod.mk.injEq] at h
    obtain ⟨⟨h1, h2⟩, h3⟩ := h
    have ih := findNow_int n l m (i + 1) h3
    unfold Instr.findNow
    rw [h1]
    simp only [Instr.sameNow, if_true]
    by_cases hx : x.1 = n
    · have e1 : (n == x.1) = true := by simpa using hx.symm
      rw [e1]
      simp [List.findIdx?_cons, mget, hx, h2]
    · have e1 : (n == x.1) = false := by simpa using fun e => hx e.symm
      have e2 : (x.1 == n) = false := by simpa using hx
      rw [e1]
      simp only
      rw [ih]
      simp only [List.findIdx?_cons, e2, mget, List.find?_cons, Bool.false_eq_true, if_false]
      cases List.findIdx? (fun x => x.1 == n) m <;> simp [Nat.add_assoc, Nat.add_comm 1]

theorem findIdx_some {m : List (Int × Value)} {n : Int} {v : Value} (h : mget m n = some v) : ∃ j, m.findIdx? (fun x => x.1 == n) = some j ∧ j < m.length ∧ m[j]? = some (n, v) := by
  unfold mget at h
  obtain ⟨x, hx, rfl⟩ := Option.map_eq_some_iff.1 h
  cases hj : m.findIdx? (fun x => x.1 == n) with
  | none =>
    rw [List.findIdx?_eq_none_iff] at hj
    have := hj x (List.mem_of_find?_eq_some hx)
    have h1 := List.find?_some hx
    simp [h1] at this
  | some j =>
    refine ⟨j, rfl, ?_⟩
    rw [List.findIdx?_eq_some_iff_getElem] at hj
    obtain ⟨hlt, hp, hmin⟩ := hj
    refine ⟨hlt, ?_⟩
    rw [List.getElem?_eq_getElem hlt]
    have : m.find? (fun x => x.1 == n) = some m[j] := by
      rw [List.find?_eq_some_iff_getElem]
      exact ⟨hp, j, hlt, rfl, fun k hk => by have := hmin k hk; simpa using this⟩
    rw [this] at hx
    injection hx with hx
    have hp' : m[j].1 = n := by simpa using hp
    rw [hx] at hp' ⊢
    rw [← hp']
theorem findIdx_none {m : List (Int × Value)} {n : Int} (h : mget m n = none) : m.findIdx? (fun x => x.1 == n) = none := by
  rw [List.findIdx?_eq_none_iff]
  intro x hx
  simpa using mget_none.1 h x hx

theorem IMap.lookup_yes (h : IMap w b m) {T K E : TypeId} (hT : P.underlying T = some (.map K E)) (hK : P.underlying K = some (.int .i64)) {n : Int} {v : Value} (hv : mget m n = some v) :
    (Instr.lookup T (.map (some b)) (.int .i64 n) true).run P w = .ok (.tuple #[v, .bool true]) w := by
  obtain ⟨es, clock, h1, h2, _⟩ := h.ex
  obtain ⟨j, hj, _⟩ := findIdx_some hv
  have hf := findNow_int n es.toList m 0 h2
  rw [hj, hv] at hf
  have hc : (Instr.checkKey es.isEmpty 10000 K (.int .i64 n)).run P w = .ok () w := MapKept.run_checkKey (k := .int .i64 n) hK (by simp [MapKept.IsKey]) _ 9999
  simp [Instr.lookup, run_underlying hT, MapKept.run_getObj_map h1, hc, MapKept.run_findKey hK hf, Result.andThen]
theorem IMap.lookup_no (h : IMap w b m) {T K E : TypeId} (hT : P.underlying T = some (.map K E)) (hK : P.underlying K = some (.int .i64)) {n : Int} {z : Value} (hz : (zeroValue E).run P w = .ok z w) (hv : mget m n = none) :
    (Instr.lookup T (.map (some b)) (.int .i64 n) true).run P w = .ok (.tuple #[z, .bool false]) w := by
  obtain ⟨es, clock, h1, h2, _⟩ := h.ex
  have hf := findNow_int n es.toList m 0 h2
  rw [findIdx_none hv] at hf
  have hc : (Instr.checkKey es.isEmpty 10000 K (.int .i64 n)).run P w = .ok () w := MapKept.run_checkKey (k := .int .i64 n) hK (by simp [MapKept.IsKey]) _ 9999
  simp [Instr.lookup, run_underlying hT, MapKept.run_getObj_map h1, hc, MapKept.run_findKey hK hf, Result.andThen, hz]
theorem IMap.lookup1_yes (h : IMap w b m) {T K E : TypeId} (hT : P.underlying T = some (.map K E)) (hK : P.underlying K = some (.int .i64)) {n : Int} {v : Value} (hv : mget m n = some v) :
    (Instr.lookup T (.map (some b)) (.int .i64 n) false).run P w = .ok v w := by
  obtain ⟨es, clock, h1, h2, _⟩ := h.ex
  obtain ⟨j, hj, _⟩ := findIdx_some hv
  have hf := findNow_int n es.toList m 0 h2
  rw [hj, hv] at hf
  have hc : (Instr.checkKey es.isEmpty 10000 K (.int .i64 n)).run P w = .ok () w := MapKept.run_checkKey (k := .int .i64 n) hK (by simp [MapKept.IsKey]) _ 9999
  simp [Instr.lookup, run_underlying hT, MapKept.run_getObj_map h1, hc, MapKept.run_findKey hK hf, Result.andThen]
end
end Go.Proofs.Ytliakkpmmmgmhaa
