/- Parts of the proof, put together: SortI, Base, Maps, Bytes, Rd, Clone, CatByte, Pool0, Pool1, Pool2, Pool3. -/
import Derived.Shelf.Sort.Plain
import Derived.Ground.Names2Prog
import Derived.Shelf.Slices.In.SortNone
import Derived.Test.YtliakkpmmmgmhaaProg
import Derived.Below
import Derived.Laws.OwnMore
import Derived.Deep.Draws
import Derived.Laws.Rows
import Derived.Lib.Hide
import Derived.WalkKit
import Derived.KernelRfl
import Derived.MapKept
import Derived.Tactics
import Derived.Maps.Own
import Derived.Maps.OwnSet
import Derived.Maps.AppendAt
import Derived.Deep.AppendLies
import Derived.OwnWalk
import Derived.Lib.AppendStr
import Derived.Lib.ConvBytes
import Derived.Laws.IdiomStrings
import Derived.Laws.Slices
import Derived.Deep.MidRow
import Derived.Laws.CopyOwn
import Derived.Lib.AppendZeros
import Derived.Outline
import Derived.WalkSpells
import Derived.Deep.LoopGhost
import Derived.Deep.QuietTactic
import Derived.BigQuiet
import Derived.Deep.DeepCutAuto
import Derived.Deep.CutBlock
import Derived.Deep.RegionHeld3
/-
  DERIVED: THE SHELF's CONTRACTS AT THIS DUMP, IN PLAIN WORDS (tools/lay-plain.mjs out of 'YtliakkpmmmgmhaaSortI.lean', which tools/lay-shelf.mjs wrote): THE SAME DECLARATIONS UNDER THE SAME NAMES: 'import', 'namespace', 'open', 'def', 'theorem' AND NOTHING ELSE: no command of the shelf's: FOR A HAND-IN. Each laying: the table of numbers ('.._ren') and one theorem, a field a fact of the dump's own or the kernel's comparison; each contract: ONE APPLICATION.
-/
namespace Go.Proofs
open Go.Shelf
def Try.lays189_ren : Go.Shelf.Ren := ⟨fun | 189 => 44 | 125 => 70 | 257 => 69 | 128 => 91 | 129 => 92 | 294 => 82 | 295 => 83 | 296 => 84 | 297 => 85 | 298 => 86 | 299 => 87 | 216 => 88 | 300 => 89 | 301 => 90 | 328 => 98 | 329 => 99 | 330 => 100 | 331 => 101 | 332 => 102 | 215 => 103 | 343 => 105 | n => n, fun | 28 => 22 | 3 => 3 | 46 => 24 | 0 => 0 | 51 => 143 | 53 => 72 | 4 => 4 | 183 => 137 | 182 => 136 | 131 => 65 | 5 => 5 | 9 => 9 | 218 => 149 | 222 => 152 | 228 => 154 | 229 => 44 | n => n, fun | n => n⟩
theorem Try.lays189 : Go.Proofs.Lays.n189 Try.prog Try.lays189_ren := {
  mixed := by kernel_rfl
  f125 := Try.func70.trans (congrArg some (by kernel_rfl))
  f128 := Try.func91.trans (congrArg some (by kernel_rfl))
  f129 := Try.func92.trans (congrArg some (by kernel_rfl))
  f189 := Try.func44.trans (congrArg some (by kernel_rfl))
  f215 := Try.func103.trans (congrArg some (by kernel_rfl))
  f216 := Try.func88.trans (congrArg some (by kernel_rfl))
  f257 := Try.func69.trans (congrArg some (by kernel_rfl))
  f294 := Try.func82.trans (congrArg some (by kernel_rfl))
  f295 := Try.func83.trans (congrArg some (by kernel_rfl))
  f296 := Try.func84.trans (congrArg some (by kernel_rfl))
  f297 := Try.func85.trans (congrArg some (by kernel_rfl))
  f298 := Try.func86.trans (congrArg some (by kernel_rfl))
  f299 := Try.func87.trans (congrArg some (by kernel_rfl))
  f300 := Try.func89.trans (congrArg some (by kernel_rfl))
  f301 := Try.func90.trans (congrArg some (by kernel_rfl))
  f328 := Try.func98.trans (congrArg some (by kernel_rfl))
  f329 := Try.func99.trans (congrArg some (by kernel_rfl))
  f330 := Try.func100.trans (congrArg some (by kernel_rfl))
  f331 := Try.func101.trans (congrArg some (by kernel_rfl))
  f332 := Try.func102.trans (congrArg some (by kernel_rfl))
  f343 := Try.func105.trans (congrArg some (by kernel_rfl))
  t0 := Try.underlying0
  a0 := Try.isAgg0
  z0 := Try.sizeOf0
  v0 := Try.zeroValue0
  t3 := Try.underlying3
  a3 := Try.isAgg3
  z3 := Try.sizeOf3
  v3 := Try.zeroValue3
  t4 := Try.underlying4
  a4 := Try.isAgg4
  z4 := Try.sizeOf4
  v4 := Try.zeroValue4
  t5 := Try.underlying5
  a5 := Try.isAgg5
  z5 := Try.sizeOf5
  v5 := Try.zeroValue5
  t9 := Try.underlying9
  a9 := Try.isAgg9
  z9 := Try.sizeOf9
  v9 := Try.zeroValue9
  t28 := Try.underlying22
  a28 := Try.isAgg22
  z28 := Try.sizeOf22
  v28 := Try.zeroValue22
  t46 := Try.underlying24
  a46 := Try.isAgg24
  z46 := Try.sizeOf24
  v46 := Try.zeroValue24
  t51 := Try.underlying143
  a51 := Try.isAgg143
  z51 := Try.sizeOf143
  v51 := Try.zeroValue143
  t53 := Try.underlying72
  a53 := Try.isAgg72
  z53 := Try.sizeOf72
  v53 := Try.zeroValue72
  t131 := Try.underlying65
  a131 := Try.isAgg65
  z131 := Try.sizeOf65
  v131 := Try.zeroValue65
  t182 := Try.underlying136
  a182 := Try.isAgg136
  z182 := Try.sizeOf136
  v182 := Try.zeroValue136
  t183 := Try.underlying137
  a183 := Try.isAgg137
  z183 := Try.sizeOf137
  v183 := Try.zeroValue137
  t218 := Try.underlying149
  a218 := Try.isAgg149
  z218 := Try.sizeOf149
  v218 := Try.zeroValue149
  t222 := Try.underlying152
  a222 := Try.isAgg152
  z222 := Try.sizeOf152
  v222 := Try.zeroValue152
  t228 := Try.underlying154
  a228 := Try.isAgg154
  z228 := Try.sizeOf154
  v228 := Try.zeroValue154
  t229 := Try.underlying44
  a229 := Try.isAgg44
  z229 := Try.sizeOf44
  v229 := Try.zeroValue44 }
end Go.Proofs
/- Words for memory: what turns, blocks that are known whole, maps with whole numbers as keys. No program in it. -/
namespace Go.Proofs.Ytliakkpmmmgmhaa
open Go.RowKit

/-! ### what turns -/
/-- From w to w' no block that was there turns, but those of S. -/
structure Turned (S : Nat → Prop) (w w' : World) : Prop where
  os : w'.os = w.os
  tape : w'.tape = w.tape
  output : w'.output = w.output
  size : w.heap.size ≤ w'.heap.size
  block : ∀ k, k < w.heap.size → ¬ S k → w'.heap[k]? = w.heap[k]?

section
variable {S S' : Nat → Prop} {w w1 w2 : World}
theorem Turned.refl (S : Nat → Prop) (w : World) : Turned S w w := ⟨rfl, rfl, rfl, Nat.le_refl _, fun _ _ _ => rfl⟩
theorem Turned.more (h : Turned S w w1) (hs : ∀ k, k < w.heap.size → S k → S' k) : Turned S' w w1 := ⟨h.os, h.tape, h.output, h.size, fun k hk hn => h.block k hk (fun x => hn (hs k hk x))⟩
theorem Turned.trans (h : Turned S w w1) (k : Turned S' w1 w2) (hs : ∀ k, k < w.heap.size → S' k → S k) : Turned S w w2 :=
  ⟨k.os.trans h.os, k.tape.trans h.tape, k.output.trans h.output, Nat.le_trans h.size k.size, fun i hi hn => (k.block i (Nat.lt_of_lt_of_le hi h.size) (fun x => hn (hs i hi x))).trans (h.block i hi hn)⟩
theorem Turned.drew (h : Turned S w w1) : Turned S w w1.drew := ⟨h.os, h.tape, h.output, h.size, h.block⟩
theorem Turned.drewN (h : Turned S w w1) (n : Nat) : Turned S w (w1.drewN n) := ⟨h.os, h.tape, h.output, h.size, h.block⟩
theorem Turned.alloc (h : Turned S w w1) (o : Obj) : Turned S w (w1.alloc o) :=
  h.trans (S' := fun _ => False) ⟨rfl, rfl, rfl, by simp, fun k hk _ => Below.heap_alloc _ _ _ hk⟩ (fun _ _ x => x.elim)
theorem Turned.setCell (h : Turned S w w1) {p : Addr} (hp : p.block < w.heap.size → S p.block) (u : Value) : Turned S w (w1.setCell p u) :=
  h.trans (S' := fun k => k = p.block) ⟨rfl, rfl, rfl, by simp [World.setCell], fun k _ hne => Below.heap_setCell _ _ _ _ hne⟩ (fun k hk e => by subst e; exact hp hk)
theorem Turned.of_below (h : Below w.heap.size w w1) : Turned S w w1 := ⟨h.os, h.tape, h.output, h.size, fun k hk _ => h.block k hk⟩
theorem Turned.below (h : Turned (fun _ => False) w w1) : Below w.heap.size w w1 := ⟨h.os, h.tape, h.output, h.size, fun k hk => h.block k hk id⟩
theorem Turned.of_grown {row : Option Nat} (h : w.grownBy w1 row) (hs : ∀ k, row = some k → k < w.heap.size → S k) : Turned S w w1 :=
  ⟨h.os, h.tape, h.output, h.size, fun k hk hn => h.block k hk (fun e => hn (hs k e.symm hk))⟩
theorem Turned.grown {row : Option Nat} (h : Turned S w w1) (hg : w1.grownBy w2 row) (hs : ∀ k, row = some k → k < w.heap.size → S k) : Turned S w w2 :=
  ⟨hg.os.trans h.os, hg.tape.trans h.tape, hg.output.trans h.output, Nat.le_trans h.size hg.size, fun i hi hn => (hg.block i (Nat.lt_of_lt_of_le hi h.size) (fun e => hn (hs i e.symm hi))).trans (h.block i hi hn)⟩
theorem Turned.cell (h : Turned S w w1) {p : Addr} {v : Value} (hc : w.cell? p = some v) (hn : ¬ S p.block) : w1.cell? p = some v :=
  (World.cell?_of_block (h.block p.block (World.block_lt_of_cell? w p hc) hn)).trans hc
end

/-! ### a block that is known whole -/
def Blk (w : World) (g : Nat) (t : TypeId) (cs : Array Value) : Prop := w.heap[g]? = some (.cells cs t (0, 0))
section
variable {w w' : World} {g : Nat} {t : TypeId} {cs : Array Value}
theorem Blk.lt (h : Blk w g t cs) : g < w.heap.size := by
  rcases Nat.lt_or_ge g w.heap.size with hlt | hge
  · exact hlt
  · unfold Blk at h; rw [Array.getElem?_eq_none hge] at h; cases h
theorem Blk.cell (h : Blk w g t cs) (i : Nat) : w.cell? ⟨g, i, none⟩ = cs[i]? := cell_of_row w g i cs t (0, 0) h
theorem Blk.frozen (h : Blk w g t cs) (i : Nat) : w.frozen? ⟨g, i, none⟩ = false := by
  unfold Blk at h
  simp [World.frozen?, h]
theorem Blk.new (w : World) (t : TypeId) (cs : Array Value) : Blk (w.alloc (.cells cs t)) w.heap.size t cs := heap_alloc_new w _
theorem Blk.drew (h : Blk w g t cs) : Blk w.drew g t cs := h
theorem Blk.drewN (h : Blk w g t cs) (n : Nat) : Blk (w.drewN n) g t cs := h
theorem Blk.alloc (h : Blk w g t cs) (o : Obj) : Blk (w.alloc o) g t cs := (Below.heap_alloc w o g h.lt).trans h
theorem Blk.set_ (h : Blk w g t cs) (i : Nat) (u : Value) : Blk (w.setCell ⟨g, i, none⟩ u) g t (cs.setIfInBounds i u) := by
  unfold Blk at h ⊢
  simp [World.setCell, Array.getElem?_modify, h]
theorem Blk.far (h : Blk w g t cs) {p : Addr} (hp : g ≠ p.block) (u : Value) : Blk (w.setCell p u) g t cs := (Below.heap_setCell w p u g hp).trans h
theorem Blk.below {B : Nat} (h : Blk w g t cs) (hb : Below B w w') (hg : g < B) : Blk w' g t cs := (hb.block g hg).trans h
theorem Blk.turned {S : Nat → Prop} (h : Blk w g t cs) (hb : Turned S w w') (hg : ¬ S g) : Blk w' g t cs := (hb.block g h.lt hg).trans h
theorem Blk.ne_ {g' : Nat} {t' : TypeId} {cs' : Array Value} (h : Blk w g t cs) (h' : Blk w g' t' cs') (hne : t ≠ t') : g ≠ g' := by
  rintro rfl
  unfold Blk at h h'
  rw [h] at h'
  injection h' with h'
  injection h' with _ ht
  exact hne ht
end

theorem cell_far {w : World} {p q : Addr} {u v : Value} (h : w.cell? q = some v) (hne : q.block ≠ p.block) : (w.setCell p u).cell? q = some v := by
  rw [World.cell?_setCell_other w p q u (fun e => hne (by rw [e]))]; exact h

/-! ### a map whose keys are whole numbers -/
def mget (m : List (Int × Value)) (n : Int) : Option Value := (m.find? (fun x => x.1 == n)).map (·.2)
def mput (m : List (Int × Value)) (n : Int) (v : Value) : List (Int × Value) :=
  if m.any (fun x => x.1 == n) then m.map (fun x => if x.1 == n then (n, v) else x) else m ++ [(n, v)]
def mdel (m : List (Int × Value)) (n : Int) : List (Int × Value) := m.filter (fun x => !(x.1 == n))

theorem mget_none {m : List (Int × Value)} {n : Int} : mget m n = none ↔ ∀ x ∈ m, x.1 ≠ n := by
  unfold mget; simp
theorem mget_some_mem {m : List (Int × Value)} {n : Int} {v : Value} (h : mget m n = some v) : (n, v) ∈ m := by
  unfold mget at h
  obtain ⟨x, hx, rfl⟩ := Option.map_eq_some_iff.1 h
  have h1 := List.find?_some hx
  have h2 := List.mem_of_find?_eq_some hx
  simp at h1; subst h1; exact h2
theorem mget_put (m : List (Int × Value)) (n k : Int) (v : Value) : mget (mput m n v) k = if k = n then some v else mget m k := by
  induction m with
  | nil => by_cases h : k = n <;> simp [mput, mget, h]; intro e; exact absurd e.symm h
  | cons x m ih =>
    unfold mput mget at *
    by_cases hx : x.1 = n
    · have : (x :: m).any (fun x => x.1 == n) = true := by simp [hx]
      rw [if_pos this]
      by_cases h : k = n
      · subst h; simp [hx]
      · simp only [List.map_cons, hx, beq_self_eq_true, if_true, if_neg h]
        rw [List.find?_cons_of_neg (by simp; exact fun e => h e.symm), List.find?_cons_of_neg (by simp [hx]; exact fun e => h e.symm)]
        congr 1
        clear ih this
        induction m with
        | nil => rfl
        | cons y m ih =>
          simp only [List.map_cons]
          by_cases hy : y.1 = n
          · simp only [hy, beq_self_eq_true, if_true]
            rw [List.find?_cons_of_neg (by simp; exact fun e => h e.symm), List.find?_cons_of_neg (by simp [hy]; exact fun e => h e.symm), ih]
          · have : (y.1 == n) = false := by simpa using hy
            rw [this]; simp only [Bool.false_eq_true, if_false]
            by_cases hyk : y.1 = k
            · rw [List.find?_cons_of_pos (by simpa using hyk), List.find?_cons_of_pos (by simpa using hyk)]
            · rw [List.find?_cons_of_neg (by simpa using hyk), List.find?_cons_of_neg (by simpa using hyk), ih]
    · have hxn : (x.1 == n) = false := by simpa using hx
      have ha : (x :: m).any (fun x => x.1 == n) = m.any (fun x => x.1 == n) := by simp [hxn]
      rw [ha]
      by_cases hm : m.any (fun x => x.1 == n)
      · rw [if_pos hm] at ih ⊢
        simp only [List.map_cons, hxn, Bool.false_eq_true, if_false]
        by_cases hxk : x.1 = k
        · rw [List.find?_cons_of_pos (by simpa using hxk), List.find?_cons_of_pos (by simpa using hxk), if_neg (by rw [← hxk]; exact hx)]
        · rw [List.find?_cons_of_neg (by simpa using hxk), List.find?_cons_of_neg (by simpa using hxk), ih]
      · rw [if_neg hm] at ih ⊢
        simp only [List.cons_append]
        by_cases hxk : x.1 = k
        · rw [List.find?_cons_of_pos (by simpa using hxk), List.find?_cons_of_pos (by simpa using hxk), if_neg (by rw [← hxk]; exact hx)]
        · rw [List.find?_cons_of_neg (by simpa using hxk), List.find?_cons_of_neg (by simpa using hxk), ih]
theorem mget_del (m : List (Int × Value)) (n k : Int) : mget (mdel m n) k = if k = n then none else mget m k := by
  induction m with
  | nil => by_cases h : k = n <;> simp [mdel, mget, h]
  | cons x m ih =>
    unfold mdel mget at *
    by_cases hx : x.1 = n
    · rw [List.filter_cons_of_neg (by simp [hx]), ih]
      by_cases h : k = n
      · simp [h]
      · rw [if_neg h, if_neg h, List.find?_cons_of_neg (by simp [hx]; exact fun e => h e.symm)]
    · rw [List.filter_cons_of_pos (by simpa using hx)]
      by_cases hxk : x.1 = k
      · rw [List.find?_cons_of_pos (by simpa using hxk), List.find?_cons_of_pos (by simpa using hxk), if_neg (by rw [← hxk]; exact hx)]
      · rw [List.find?_cons_of_neg (by simpa using hxk), List.find?_cons_of_neg (by simpa using hxk), ih]

/-- The entries of a map are these, in the order in which they came. -/
def Entries (es : Array MapEntry) (m : List (Int × Value)) : Prop := es.toList.map (fun e => (e.key, e.val)) = m.map (fun x => (Value.int .i64 x.1, x.2))
/-- Block b is a map of these entries. -/
structure IMap (w : World) (b : Nat) (m : List (Int × Value)) : Prop where
  ex : ∃ es clock, w.heap[b]? = some (.map es clock) ∧ Entries es m ∧ (es.toList.map (·.born)).Nodup ∧ ∀ e ∈ es.toList, e.born < clock
  nodup : (m.map (·.1)).Nodup

section
variable {P : Program} {w w' : World} {b : Nat} {m : List (Int × Value)}
theorem IMap.lt (h : IMap w b m) : b < w.heap.size := by
  obtain ⟨es, clock, h1, _⟩ := h.ex
  exact (Array.getElem?_eq_some_iff.1 h1).1
theorem IMap.of_block (h : IMap w b m) (e : w'.heap[b]? = w.heap[b]?) : IMap w' b m := by
  obtain ⟨⟨es, clock, h1, h2⟩, h3⟩ := h
  exact ⟨⟨es, clock, e.trans h1, h2⟩, h3⟩
theorem IMap.turned {S : Nat → Prop} (h : IMap w b m) (k : Turned S w w') (hn : ¬ S b) : IMap w' b m := h.of_block (k.block b h.lt hn)
theorem IMap.alloc (h : IMap w b m) (o : Obj) : IMap (w.alloc o) b m := h.of_block (Below.heap_alloc w o b h.lt)
theorem IMap.setCell (h : IMap w b m) (p : Addr) (u : Value) : IMap (w.setCell p u) b m := by
  by_cases e : b = p.block
  · obtain ⟨⟨es, clock, h1, h2⟩, h3⟩ := h
    refine ⟨⟨es, clock, ?_, h2⟩, h3⟩
    subst e
    simp only [World.setCell, Array.getElem?_modify, h1]
    simp
  · exact h.of_block (Below.heap_setCell w p u b e)
theorem IMap.ne_blk (h : IMap w b m) {g : Nat} {t : TypeId} {cs : Array Value} (k : Blk w g t cs) : b ≠ g := by
  rintro rfl
  obtain ⟨es, clock, h1, _⟩ := h.ex
  unfold Blk at k
  rw [h1] at k; cases k
theorem IMap.made (w : World) : IMap (w.alloc (.map #[] 0)) w.heap.size [] :=
  ⟨⟨#[], 0, heap_alloc_new w _, rfl, by simp, by simp⟩, by simp⟩

theorem findNow_int (n : Int) : ∀ (l : List MapEntry) (m : List (Int × Value)) (i : Nat), l.map (fun e => (e.key, e.val)) = m.map (fun x => (Value.int .i64 x.1, x.2)) →
    Instr.findNow (.int .i64) (.int .i64 n) l i = some ((m.findIdx? (fun x => x.1 == n)).map (fun j => (i + j, (mget m n).getD undef)))
  | [], [], i, _ => rfl
  | [], _ :: _, _, h => by simp at h
  | _ :: _, [], _, h => by simp at h
  | e :: l, x :: m, i, h => by
    simp only [List.map_cons, List.cons.injEq, Prod.mk.injEq] at h
    obtain ⟨⟨h1, h2⟩, h3⟩ := h
    have ih := findNow_int n l m (i + 1) h3
    unfold Instr.findNow
    rw [h1]
    simp only [Instr.sameNow, if_true]
    by_cases hx : x.1 = n
    · have e1 : (n == x.1) = true := by simpa using hx.symm
      rw [e1]
      simp [List.findIdx?_cons, mget, hx, h2]
    · have e1 : (n == x.1) = false := by simpa using fun e => hx e.symm
      have e2 : (x.1 == n) = false := by simpa using hx
      rw [e1]
      simp only
      rw [ih]
      simp only [List.findIdx?_cons, e2, mget, List.find?_cons, Bool.false_eq_true, if_false]
      cases List.findIdx? (fun x => x.1 == n) m <;> simp [Nat.add_assoc, Nat.add_comm 1]

theorem findIdx_some {m : List (Int × Value)} {n : Int} {v : Value} (h : mget m n = some v) : ∃ j, m.findIdx? (fun x => x.1 == n) = some j ∧ j < m.length ∧ m[j]? = some (n, v) := by
  unfold mget at h
  obtain ⟨x, hx, rfl⟩ := Option.map_eq_some_iff.1 h
  cases hj : m.findIdx? (fun x => x.1 == n) with
  | none =>
    rw [List.findIdx?_eq_none_iff] at hj
    have := hj x (List.mem_of_find?_eq_some hx)
    have h1 := List.find?_some hx
    simp [h1] at this
  | some j =>
    refine ⟨j, rfl, ?_⟩
    rw [List.findIdx?_eq_some_iff_getElem] at hj
    obtain ⟨hlt, hp, hmin⟩ := hj
    refine ⟨hlt, ?_⟩
    rw [List.getElem?_eq_getElem hlt]
    have : m.find? (fun x => x.1 == n) = some m[j] := by
      rw [List.find?_eq_some_iff_getElem]
      exact ⟨hp, j, hlt, rfl, fun k hk => by have := hmin k hk; simpa using this⟩
    rw [this] at hx
    injection hx with hx
    have hp' : m[j].1 = n := by simpa using hp
    rw [hx] at hp' ⊢
    rw [← hp']
theorem findIdx_none {m : List (Int × Value)} {n : Int} (h : mget m n = none) : m.findIdx? (fun x => x.1 == n) = none := by
  rw [List.findIdx?_eq_none_iff]
  intro x hx
  simpa using mget_none.1 h x hx

theorem IMap.lookup_yes (h : IMap w b m) {T K E : TypeId} (hT : P.underlying T = some (.map K E)) (hK : P.underlying K = some (.int .i64)) {n : Int} {v : Value} (hv : mget m n = some v) :
    (Instr.lookup T (.map (some b)) (.int .i64 n) true).run P w = .ok (.tuple #[v, .bool true]) w := by
  obtain ⟨es, clock, h1, h2, _⟩ := h.ex
  obtain ⟨j, hj, _⟩ := findIdx_some hv
  have hf := findNow_int n es.toList m 0 h2
  rw [hj, hv] at hf
  have hc : (Instr.checkKey es.isEmpty 10000 K (.int .i64 n)).run P w = .ok () w := MapKept.run_checkKey (k := .int .i64 n) hK (by simp [MapKept.IsKey]) _ 9999
  simp [Instr.lookup, run_underlying hT, MapKept.run_getObj_map h1, hc, MapKept.run_findKey hK hf, Result.andThen]
theorem IMap.lookup_no (h : IMap w b m) {T K E : TypeId} (hT : P.underlying T = some (.map K E)) (hK : P.underlying K = some (.int .i64)) {n : Int} {z : Value} (hz : (zeroValue E).run P w = .ok z w) (hv : mget m n = none) :
    (Instr.lookup T (.map (some b)) (.int .i64 n) true).run P w = .ok (.tuple #[z, .bool false]) w := by
  obtain ⟨es, clock, h1, h2, _⟩ := h.ex
  have hf := findNow_int n es.toList m 0 h2
  rw [findIdx_none hv] at hf
  have hc : (Instr.checkKey es.isEmpty 10000 K (.int .i64 n)).run P w = .ok () w := MapKept.run_checkKey (k := .int .i64 n) hK (by simp [MapKept.IsKey]) _ 9999
  simp [Instr.lookup, run_underlying hT, MapKept.run_getObj_map h1, hc, MapKept.run_findKey hK hf, Result.andThen, hz]
theorem IMap.lookup1_yes (h : IMap w b m) {T K E : TypeId} (hT : P.underlying T = some (.map K E)) (hK : P.underlying K = some (.int .i64)) {n : Int} {v : Value} (hv : mget m n = some v) :
    (Instr.lookup T (.map (some b)) (.int .i64 n) false).run P w = .ok v w := by
  obtain ⟨es, clock, h1, h2, _⟩ := h.ex
  obtain ⟨j, hj, _⟩ := findIdx_some hv
  have hf := findNow_int n es.toList m 0 h2
  rw [hj, hv] at hf
  have hc : (Instr.checkKey es.isEmpty 10000 K (.int .i64 n)).run P w = .ok () w := MapKept.run_checkKey (k := .int .i64 n) hK (by simp [MapKept.IsKey]) _ 9999
  simp [Instr.lookup, run_underlying hT, MapKept.run_getObj_map h1, hc, MapKept.run_findKey hK hf, Result.andThen]
end
end Go.Proofs.Ytliakkpmmmgmhaa
/- Maps whose keys are whole numbers: what a store, a delete, a count, a clearing and a range do. No program in it. -/
namespace Go.Proofs.Ytliakkpmmmgmhaa
open Go.RowKit

/-- Any operation that runs. -/
theorem wpList_value {P : Program} {w w' : World} {ops : Array Oper} {rest : List Oper} {o : Oper} {a : Act} {Q : Exit → Act → World → Prop} {v : Value}
    (hg : o.guard = none) (hrun : (execOp a.eval o).run P w = .ok (.value v) w') (h : wpList P ops Q rest (a.put o.dst v) w') : wpList P ops Q (o :: rest) a w := by
  refine wpList_plain hg fun K' hK' => ?_
  unfold Oper.wp
  rw [hrun]
  exact hK' _ _ h
theorem wpList_skips {P : Program} {w w' : World} {ops : Array Oper} {rest : List Oper} {o : Oper} {a : Act} {Q : Exit → Act → World → Prop}
    (hg : o.guard = none) (hrun : (execOp a.eval o).run P w = .ok .skip w') (h : wpList P ops Q rest (a.put o.dst undef) w') : wpList P ops Q (o :: rest) a w := by
  refine wpList_plain hg fun K' hK' => ?_
  unfold Oper.wp
  rw [hrun]
  exact hK' _ _ h
/-- The operation that writes this slot. -/
theorem at_dst {P : Program} {W : World} {ops : Array Oper} {rest : List Oper} {o : Oper} {a : Act} {Q : Exit → Act → World → Prop} (N : Nat) (_hd : o.dst = some N) (h : wpList P ops Q (o :: rest) a W) : wpList P ops Q (o :: rest) a W := h

theorem entries_length {es : Array MapEntry} {m : List (Int × Value)} (h : Entries es m) : es.size = m.length := by
  have := congrArg List.length h
  simpa using this
theorem entries_at {es : Array MapEntry} {m : List (Int × Value)} (h : Entries es m) {j : Nat} {x : Int × Value} (hx : m[j]? = some x) : ∃ e, es[j]? = some e ∧ e.key = .int .i64 x.1 ∧ e.val = x.2 := by
  have h1 := congrArg (fun l => l[j]?) h
  simp only [List.getElem?_map, hx, Option.map_some] at h1
  cases he : es.toList[j]? with
  | none => simp [he] at h1
  | some e =>
    rw [he] at h1
    simp at h1
    exact ⟨e, by simpa using he, h1.1, h1.2⟩
theorem entries_push {es : Array MapEntry} {m : List (Int × Value)} (h : Entries es m) (n : Int) (v : Value) (c : Nat) : Entries (es.push { key := .int .i64 n, val := v, born := c }) (m ++ [(n, v)]) := by
  unfold Entries at *
  simp [h]
theorem map_modify_at {α : Type} (p : α → Bool) (f : α → α) : ∀ (l : List α) (j : Nat), l.findIdx? p = some j → (l.map p).count true ≤ 1 → l.modify j f = l.map (fun x => if p x then f x else x)
  | [], j, h, _ => by simp at h
  | x :: l, j, h, hc => by
    rw [List.findIdx?_cons] at h
    by_cases hx : p x = true
    · simp [hx] at h
      subst h
      simp only [List.modify_zero_cons, List.map_cons, hx, if_true]
      congr 1
      simp only [List.map_cons, hx, List.count_cons_self] at hc
      have h0 : (l.map p).count true = 0 := by omega
      rw [List.count_eq_zero] at h0
      symm
      rw [List.map_congr_left (g := id)]
      · simp
      · intro y hy
        have : p y ≠ true := fun e => h0 (by rw [← e]; exact List.mem_map_of_mem hy)
        simp [this]
    · have hx' : p x = false := by simpa using hx
      simp [hx'] at h
      obtain ⟨i, hi, rfl⟩ := h
      simp only [List.modify_succ_cons, List.map_cons, hx', Bool.false_eq_true, if_false]
      rw [map_modify_at p f l i hi (by simpa [hx'] using hc)]
theorem count_le_one {m : List (Int × Value)} (h : (m.map (·.1)).Nodup) (n : Int) : (m.map (fun x => x.1 == n)).count true ≤ 1 := by
  induction m with
  | nil => simp
  | cons x m ih =>
    simp only [List.map_cons, List.nodup_cons] at h
    have ih := ih h.2
    by_cases hx : x.1 = n
    · have h0 : (m.map (fun x => x.1 == n)).count true = 0 := by
        rw [List.count_eq_zero]
        intro hm
        obtain ⟨y, hy, he⟩ := List.mem_map.1 hm
        exact h.1 (List.mem_map.2 ⟨y, hy, by rw [hx]; simpa using he⟩)
      simp [hx, h0]
    · have : (x.1 == n) = false := by simpa using hx
      simpa [this] using ih
theorem mput_some {m : List (Int × Value)} {n : Int} {v u : Value} (h : mget m n = some u) : mput m n v = m.map (fun x => if x.1 == n then (n, v) else x) := by
  unfold mput
  rw [if_pos]
  have := mget_some_mem h
  simp only [List.any_eq_true]
  exact ⟨_, this, by simp⟩
theorem mput_none {m : List (Int × Value)} {n : Int} {v : Value} (h : mget m n = none) : mput m n v = m ++ [(n, v)] := by
  unfold mput
  rw [if_neg]
  simp only [List.any_eq_true, not_exists, not_and]
  intro x hx
  simpa using mget_none.1 h x hx
theorem entries_modify {es : Array MapEntry} {m : List (Int × Value)} (h : Entries es m) (hn : (m.map (·.1)).Nodup) {n : Int} {v : Value} {j : Nat} (hj : m.findIdx? (fun x => x.1 == n) = some j) :
    Entries (es.modify j fun e => { e with key := .int .i64 n, val := v }) (m.map (fun x => if x.1 == n then (n, v) else x)) := by
  have hm := map_modify_at (fun x : Int × Value => x.1 == n) (fun _ => (n, v)) m j hj (count_le_one hn n)
  rw [← hm]
  unfold Entries at *
  rw [Array.toList_modify]
  apply List.ext_getElem?
  intro i
  have hi := congrArg (fun l => l[i]?) h
  simp only [List.getElem?_map] at hi
  simp only [List.getElem?_map, List.getElem?_modify]
  by_cases e : j = i
  · subst e
    cases h1 : es.toList[j]? with
    | none => rw [h1] at hi; cases h2 : m[j]? with
      | none => simp
      | some y => rw [h2] at hi; simp at hi
    | some x => cases h2 : m[j]? with
      | none => rw [h1, h2] at hi; simp at hi
      | some y => simp
  · simp only [if_neg e]
    cases h1 : es.toList[i]? <;> cases h2 : m[i]? <;> simp_all
theorem mput_nodup {m : List (Int × Value)} (h : (m.map (·.1)).Nodup) (n : Int) (v : Value) : ((mput m n v).map (·.1)).Nodup := by
  cases hg : mget m n with
  | some u =>
    rw [mput_some hg]
    have : (m.map (fun x => if x.1 == n then (n, v) else x)).map (·.1) = m.map (·.1) := by
      rw [List.map_map]
      apply List.map_congr_left
      intro x _
      by_cases hx : x.1 = n
      · simp [hx]
      · simp [hx]
    rw [this]; exact h
  | none =>
    rw [mput_none hg, List.map_append, List.nodup_append]
    refine ⟨h, by simp, ?_⟩
    intro a ha b hb
    simp at hb
    subst hb
    obtain ⟨x, hx, rfl⟩ := List.mem_map.1 ha
    exact mget_none.1 hg x hx
theorem mdel_nodup {m : List (Int × Value)} (h : (m.map (·.1)).Nodup) (n : Int) : ((mdel m n).map (·.1)).Nodup := by
  unfold mdel
  exact List.Nodup.sublist (List.Sublist.map _ List.filter_sublist) h
theorem erase_map {α β : Type} (f : α → β) : ∀ (l : List α) (j : Nat), (l.map f).eraseIdx j = (l.eraseIdx j).map f
  | [], _ => by simp
  | _ :: _, 0 => by simp
  | x :: l, j + 1 => by simp [erase_map f l j]
theorem erase_filter {α : Type} (p : α → Bool) : ∀ (l : List α) (j : Nat), l.findIdx? p = some j → (l.map p).count true ≤ 1 → l.eraseIdx j = l.filter (fun x => !p x)
  | [], j, h, _ => by simp at h
  | x :: l, j, h, hc => by
    rw [List.findIdx?_cons] at h
    by_cases hx : p x = true
    · simp [hx] at h
      subst h
      simp only [List.map_cons, hx, List.count_cons_self] at hc
      have h0 : (l.map p).count true = 0 := by omega
      rw [List.count_eq_zero] at h0
      rw [List.eraseIdx_cons_zero, List.filter_cons_of_neg (by simp [hx])]
      symm
      rw [List.filter_eq_self]
      intro y hy
      have : p y ≠ true := fun e => h0 (by rw [← e]; exact List.mem_map_of_mem hy)
      simpa using this
    · have hx' : p x = false := by simpa using hx
      simp [hx'] at h
      obtain ⟨i, hi, rfl⟩ := h
      rw [List.eraseIdx_cons_succ, List.filter_cons_of_pos (by simp [hx']), erase_filter p l i hi (by simpa [hx'] using hc)]

section
variable {P : Program} {w : World} {b : Nat} {m : List (Int × Value)}
theorem turned_obj {b : Nat} {w : World} {o o' : Obj} (h : w.heap[b]? = some o) : Turned (fun k => k = b) w { w with heap := w.heap.setIfInBounds b o' } :=
  ⟨rfl, rfl, rfl, by simp, fun k _ hne => (MapKept.heap_set (o' := o') h).2 k hne⟩
theorem IMap.update (h : IMap w b m) {T K E : TypeId} (hT : P.underlying T = some (.map K E)) (hK : P.underlying K = some (.int .i64)) (n : Int) (v : Value) :
    ∃ w', (Instr.mapUpdate T (.map (some b)) (.int .i64 n) v).run P w = .ok () w' ∧ IMap w' b (mput m n v) ∧ Turned (fun k => k = b) w w' ∧ w'.heap.size = w.heap.size := by
  obtain ⟨⟨es, clock, h1, h2, h3, h4⟩, hn⟩ := h
  have hc : (Instr.checkKey false 10000 K (.int .i64 n)).run P w = .ok () w := MapKept.run_checkKey (k := .int .i64 n) hK (by simp [MapKept.IsKey]) _ 9999
  have hf := findNow_int n es.toList m 0 h2
  cases hg : mget m n with
  | none =>
    rw [findIdx_none hg] at hf
    refine ⟨{ w with heap := w.heap.setIfInBounds b (.map (es.push { key := .int .i64 n, val := v, born := clock }) (clock + 1)) }, ?_, ?_, turned_obj h1, by simp⟩
    · simp [Instr.mapUpdate, run_underlying hT, MapKept.run_getObj_map h1, hc, MapKept.run_findKey hK hf, Result.andThen, MapKept.run_setObj_map _ h1]
    · refine ⟨⟨_, _, (MapKept.heap_set h1).1, ?_, ?_, ?_⟩, mput_nodup hn n v⟩
      · rw [mput_none hg]; exact entries_push h2 n v clock
      · simp only [Array.toList_push, List.map_append, List.map_cons, List.map_nil, List.nodup_append]
        refine ⟨h3, by simp, ?_⟩
        intro a ha c hc
        simp at hc; subst hc
        obtain ⟨e, he, rfl⟩ := List.mem_map.1 ha
        have := h4 e he; omega
      · intro e he
        simp only [Array.toList_push, List.mem_append, List.mem_singleton] at he
        rcases he with he | rfl
        · have := h4 e he; omega
        · show clock < clock + 1; omega
  | some u =>
    obtain ⟨j, hj, hjl, hjm⟩ := findIdx_some hg
    rw [hj, hg] at hf
    obtain ⟨e, he, hek, _⟩ := entries_at h2 hjm
    have hbits : Instr.sameBits 10000 (.int .i64 n) (.int .i64 n) = true := by simp [Instr.sameBits]
    refine ⟨{ w with heap := w.heap.setIfInBounds b (.map (es.modify j fun e => { e with key := .int .i64 n, val := v }) clock) }, ?_, ?_, turned_obj h1, by simp⟩
    · simp [Instr.mapUpdate, run_underlying hT, MapKept.run_getObj_map h1, hc, MapKept.run_findKey hK hf, Result.andThen, MapKept.run_setObj_map _ h1, Instr.keyThatStays, he, hek, hbits]
    · refine ⟨⟨_, _, (MapKept.heap_set h1).1, ?_, ?_, ?_⟩, mput_nodup hn n v⟩
      · rw [mput_some hg]; exact entries_modify h2 hn hj
      · have : (es.modify j fun e => { e with key := .int .i64 n, val := v }).toList.map (·.born) = es.toList.map (·.born) := by
          rw [Array.toList_modify]
          apply List.ext_getElem?
          intro i
          simp only [List.getElem?_map, List.getElem?_modify]
          by_cases hji : j = i
          · subst hji; cases es.toList[j]? <;> simp
          · simp [if_neg hji]
        rw [this]; exact h3
      · intro x hx
        rw [Array.toList_modify] at hx
        obtain ⟨i, hi⟩ := List.mem_iff_getElem?.1 hx
        rw [List.getElem?_modify] at hi
        cases hy : es.toList[i]? with
        | none => rw [hy] at hi; simp at hi
        | some y =>
          rw [hy] at hi
          have := h4 y (List.mem_of_getElem? hy)
          by_cases hji : j = i
          · simp [hji] at hi; rw [← hi]; exact this
          · simp [hji] at hi; rw [← hi]; exact this
theorem IMap.remove (h : IMap w b m) {T K E : TypeId} (hT : P.underlying T = some (.map K E)) (hK : P.underlying K = some (.int .i64)) (n : Int) (ty : TypeId) :
    ∃ w', (Builtin.delete_ #[T, K] ty #[.map (some b), .int .i64 n]).run P w = .ok (.tuple #[]) w' ∧ IMap w' b (mdel m n) ∧ Turned (fun k => k = b) w w' ∧ w'.heap.size = w.heap.size := by
  obtain ⟨⟨es, clock, h1, h2, h3, h4⟩, hn⟩ := h
  have hc : (Instr.checkKey es.isEmpty 10000 K (.int .i64 n)).run P w = .ok () w := MapKept.run_checkKey (k := .int .i64 n) hK (by simp [MapKept.IsKey]) _ 9999
  have hf := findNow_int n es.toList m 0 h2
  cases hg : mget m n with
  | none =>
    rw [findIdx_none hg] at hf
    refine ⟨{ w with heap := w.heap.setIfInBounds b (.map es clock) }, ?_, ?_, turned_obj h1, by simp⟩
    · simp [Builtin.delete_, run_underlying hT, MapKept.run_getObj_map h1, hc, MapKept.run_findKey hK hf, Result.andThen, MapKept.run_setObj_map _ h1]
    · refine ⟨⟨_, _, (MapKept.heap_set h1).1, ?_, h3, h4⟩, mdel_nodup hn n⟩
      have : mdel m n = m := by
        unfold mdel; rw [List.filter_eq_self]
        intro x hx
        simpa using mget_none.1 hg x hx
      rw [this]; exact h2
  | some u =>
    obtain ⟨j, hj, hjl, hjm⟩ := findIdx_some hg
    rw [hj, hg] at hf
    have hjs : j < es.size := by rw [entries_length h2]; exact hjl
    refine ⟨{ w with heap := w.heap.setIfInBounds b (.map (es.eraseIdxIfInBounds j) clock) }, ?_, ?_, turned_obj h1, by simp⟩
    · simp [Builtin.delete_, run_underlying hT, MapKept.run_getObj_map h1, hc, MapKept.run_findKey hK hf, Result.andThen, MapKept.run_setObj_map _ h1]
    · have hl : (es.eraseIdxIfInBounds j).toList = es.toList.eraseIdx j := by simp
      refine ⟨⟨_, _, (MapKept.heap_set h1).1, ?_, ?_, ?_⟩, mdel_nodup hn n⟩
      · unfold Entries at *
        unfold mdel
        rw [← erase_filter _ m j hj (count_le_one hn n), hl, ← erase_map, ← erase_map, h2]
      · rw [hl, ← erase_map]; exact List.Nodup.sublist (List.eraseIdx_sublist ..) h3
      · rw [hl]; intro e he; exact h4 e (List.mem_of_mem_eraseIdx he)
theorem IMap.count (h : IMap w b m) {T K E : TypeId} (hT : P.underlying T = some (.map K E)) (ty : TypeId) : (Builtin.len_ #[T] ty #[.map (some b)]).run P w = .ok (.int .i64 m.length) w := by
  obtain ⟨⟨es, clock, h1, h2, _⟩, _⟩ := h
  simp [Builtin.len_, run_underlying hT, MapKept.run_getObj_map h1, Result.andThen, goInt, entries_length h2]
theorem IMap.cleared (h : IMap w b m) {T K E : TypeId} (hT : P.underlying T = some (.map K E)) (ty : TypeId) :
    ∃ w', (Builtin.clear_ #[T] ty #[.map (some b)]).run P w = .ok (.tuple #[]) w' ∧ IMap w' b [] ∧ Turned (fun k => k = b) w w' ∧ w'.heap.size = w.heap.size := by
  obtain ⟨⟨es, clock, h1, h2, h3, h4⟩, hn⟩ := h
  refine ⟨{ w with heap := w.heap.setIfInBounds b (.map #[] clock) }, ?_, ⟨⟨_, _, (MapKept.heap_set h1).1, rfl, by simp, by simp⟩, by simp⟩, turned_obj h1, by simp⟩
  simp [Builtin.clear_, run_underlying hT, MapKept.run_getObj_map h1, Result.andThen, MapKept.run_setObj_map _ h1]

section
variable {ops : Array Oper} {rest : List Oper} {o : Oper} {a : Act} {Q : Exit → Act → World → Prop}
theorem wpList_mput (hg : o.guard = none) (mo ko vo : Operand) (T : TypeId) (hop : o.op = Op.mapUpdate T mo ko vo) {K E : TypeId} (hT : P.underlying T = some (.map K E)) (hK : P.underlying K = some (.int .i64))
    (hm : a.eval mo = .map (some b)) (n : Int) (hk : a.eval ko = .int .i64 n) (v : Value) (hv : a.eval vo = v) (h : IMap w b m)
    (next : ∀ w', IMap w' b (mput m n v) → Turned (fun k => k = b) w w' → w'.heap.size = w.heap.size → wpList P ops Q rest (a.put o.dst undef) w') : wpList P ops Q (o :: rest) a w := by
  obtain ⟨w', hrun, h1, h2, h3⟩ := h.update hT hK n v
  refine wpList_skips hg (w' := w') ?_ (next w' h1 h2 h3)
  simp [execOp, hop, hm, hk, hv, hrun, Result.andThen]
theorem wpList_mdel (hg : o.guard = none) (mo ko : Operand) (T K : TypeId) (hop : o.op = Op.call { callee := Callee.builtin Builtin.delete, args := #[mo, ko], argTypes := #[T, K] }) {E : TypeId} (hT : P.underlying T = some (.map K E)) (hK : P.underlying K = some (.int .i64))
    (hm : a.eval mo = .map (some b)) (n : Int) (hk : a.eval ko = .int .i64 n) (h : IMap w b m)
    (next : ∀ w', IMap w' b (mdel m n) → Turned (fun k => k = b) w w' → w'.heap.size = w.heap.size → wpList P ops Q rest (a.put o.dst (.tuple #[])) w') : wpList P ops Q (o :: rest) a w := by
  obtain ⟨w', hrun, h1, h2, h3⟩ := h.remove hT hK n o.type
  refine wpList_value hg (w' := w') (v := .tuple #[]) ?_ (next w' h1 h2 h3)
  simp [execOp, hop, resolve, invoke, builtin, hm, hk, hrun, Result.andThen]
theorem wpList_mclear (hg : o.guard = none) (mo : Operand) (T : TypeId) (hop : o.op = Op.call { callee := Callee.builtin Builtin.clear, args := #[mo], argTypes := #[T] }) {K E : TypeId} (hT : P.underlying T = some (.map K E))
    (hm : a.eval mo = .map (some b)) (h : IMap w b m)
    (next : ∀ w', IMap w' b [] → Turned (fun k => k = b) w w' → w'.heap.size = w.heap.size → wpList P ops Q rest (a.put o.dst (.tuple #[])) w') : wpList P ops Q (o :: rest) a w := by
  obtain ⟨w', hrun, h1, h2, h3⟩ := h.cleared hT o.type
  refine wpList_value hg (w' := w') (v := .tuple #[]) ?_ (next w' h1 h2 h3)
  simp [execOp, hop, resolve, invoke, builtin, hm, hrun, Result.andThen]
end
end

end Go.Proofs.Ytliakkpmmmgmhaa
/- Slices that read as bytes: cut, made into strings, appended, copied, made. No program in it. -/
namespace Go.Proofs.Ytliakkpmmmgmhaa
open Go.RowKit

def u8s (l : List UInt8) : List Value := l.map (fun c => Value.int .u8 (c.toNat : Int))
theorem u8s_length (l : List UInt8) : (u8s l).length = l.length := by simp [u8s]
theorem u8s_append (l k : List UInt8) : u8s (l ++ k) = u8s l ++ u8s k := by simp [u8s]
theorem u8s_oneCell (l : List UInt8) : ∀ u ∈ u8s l, u.oneCell' = true := by
  intro u hu
  obtain ⟨c, _, rfl⟩ := List.mem_map.1 hu
  rfl
theorem u8s_at {l : List UInt8} {i : Nat} (h : i < l.length) : (u8s l)[i]? = some (.int .u8 (l[i].toNat : Int)) := by simp [u8s, h]
theorem u8s_strCells (s : ByteArray) : Lib.strCells s = u8s s.data.toList := by simp [Lib.strCells, u8s]

/-- The slice (A, n, c) of bytes (type t) reads as l. -/
structure Bs (t : TypeId) (w : World) (A : Option Addr) (n c : Nat) (l : List UInt8) : Prop where
  len : l.length = n
  cap : n ≤ c
  most : c ≤ maxLen
  row : n = 0 ∨ ∃ g o cs fr, A = some ⟨g, o, none⟩ ∧ w.heap[g]? = some (.cells cs t fr) ∧ ∀ j u, (u8s l)[j]? = some u → cs[o + j]? = some u

/-- Block k holds no bytes (or is not there). -/
def Not8 (t : TypeId) (w : World) (k : Nat) : Prop := ∀ cs fr, w.heap[k]? ≠ some (.cells cs t fr)
theorem Blk.not8 {w : World} {k : Nat} {t t' : TypeId} {cs : Array Value} (h : Blk w k t' cs) (hne : t' ≠ t) : Not8 t w k := by
  intro cs' fr e
  unfold Blk at h
  rw [h] at e
  injection e with e; injection e with _ e2; exact hne e2
theorem IMap.not8 {w : World} {k : Nat} {t : TypeId} {m : List (Int × Value)} (h : IMap w k m) : Not8 t w k := by
  intro cs' fr e
  obtain ⟨es, clock, h1, _⟩ := h.ex
  rw [h1] at e; cases e

section
variable {P : Program} {t : TypeId} {w w' : World} {A : Option Addr} {n c : Nat} {l : List UInt8}
theorem Bs.nil (t : TypeId) (w : World) : Bs t w none 0 0 [] := ⟨rfl, Nat.le_refl _, by simp [maxLen], .inl rfl⟩
theorem Bs.empty (t : TypeId) (w : World) (A : Option Addr) {c : Nat} (hc : c ≤ maxLen) : Bs t w A 0 c [] := ⟨rfl, Nat.zero_le _, hc, .inl rfl⟩
theorem Bs.at_ (h : Bs t w A n c l) {i : Nat} (hi : i < n) : ∃ (g o : Nat) (b : UInt8), A = some ⟨g, o, none⟩ ∧ l[i]? = some b ∧ w.cell? ⟨g, o + i, none⟩ = some (.int .u8 (b.toNat : Int)) := by
  have hl := h.len
  rcases h.row with h0 | ⟨g, o, cs, fr, hA, hg, hr⟩
  · omega
  · have hil : i < l.length := by omega
    refine ⟨g, o, l[i], hA, List.getElem?_eq_getElem hil, ?_⟩
    rw [cell_of_row w g (o + i) cs t fr hg]
    exact hr i _ (u8s_at hil)
theorem Bs.news (h : Bs t w A n c l) {ad : Addr} (hA : A = some ad) : ∀ j u, (u8s l)[j]? = some u → w.cell? (ad.add j) = some u := by
  intro j u hu
  have hl := h.len
  have hj : j < l.length := by
    have := (List.getElem?_eq_some_iff.1 hu).1
    rwa [u8s_length] at this
  rcases h.row with h0 | ⟨g, o, cs, fr, hA', hg, hr⟩
  · omega
  · rw [hA] at hA'; injection hA' with hA'; subst hA'
    rw [Addr.add_mid, cell_of_row w g (o + j) cs t fr hg]
    exact hr j u hu
theorem Bs.of_blocks (h : Bs t w A n c l) (hb : ∀ g o, A = some ⟨g, o, none⟩ → w'.heap[g]? = w.heap[g]?) : Bs t w' A n c l := by
  refine ⟨h.len, h.cap, h.most, ?_⟩
  rcases h.row with h0 | ⟨g, o, cs, fr, hA, hg, hr⟩
  · exact .inl h0
  · exact .inr ⟨g, o, cs, fr, hA, (hb g o hA).trans hg, hr⟩
theorem Bs.turned {S : Nat → Prop} (h : Bs t w A n c l) (k : Turned S w w') (hS : ∀ k, S k → Not8 t w k) : Bs t w' A n c l := by
  refine ⟨h.len, h.cap, h.most, ?_⟩
  rcases h.row with h0 | ⟨g, o, cs, fr, hA, hg, hr⟩
  · exact .inl h0
  · have hlt := (Array.getElem?_eq_some_iff.1 hg).1
    exact .inr ⟨g, o, cs, fr, hA, (k.block g hlt (fun hs => hS g hs cs fr hg)).trans hg, hr⟩
theorem Bs.turned' {S : Nat → Prop} (h : Bs t w A n c l) (k : Turned S w w') (hS : ∀ g o, A = some ⟨g, o, none⟩ → ¬ S g) : Bs t w' A n c l := by
  refine ⟨h.len, h.cap, h.most, ?_⟩
  rcases h.row with h0 | ⟨g, o, cs, fr, hA, hg, hr⟩
  · exact .inl h0
  · have hlt := (Array.getElem?_eq_some_iff.1 hg).1
    exact .inr ⟨g, o, cs, fr, hA, (k.block g hlt (hS g o hA)).trans hg, hr⟩
theorem Bs.below (h : Bs t w A n c l) (k : Below w.heap.size w w') : Bs t w' A n c l := h.turned (S := fun _ => False) (Turned.of_below k) (fun _ h => h.elim)
theorem Bs.drew (h : Bs t w A n c l) : Bs t w.drew A n c l := ⟨h.len, h.cap, h.most, h.row⟩
theorem Bs.drewN (h : Bs t w A n c l) (k : Nat) : Bs t (w.drewN k) A n c l := ⟨h.len, h.cap, h.most, h.row⟩
theorem Bs.alloc (h : Bs t w A n c l) (o : Obj) : Bs t (w.alloc o) A n c l := h.turned (S := fun _ => False) ((Turned.refl _ _).alloc o) (fun _ h => h.elim)
theorem Bs.grown {row : Option Nat} (h : Bs t w A n c l) (k : w.grownBy w' row) (hr : ∀ g, row = some g → Not8 t w g) : Bs t w' A n c l :=
  h.turned (S := fun k => row = some k) (Turned.of_grown k (fun _ e _ => e)) (fun g e => hr g e)
/-- Where its bytes lie, if it has any. -/
theorem Bs.lt (h : Bs t w A n c l) (hn : 0 < n) : ∃ g o, A = some ⟨g, o, none⟩ ∧ g < w.heap.size := by
  rcases h.row with h0 | ⟨g, o, cs, fr, hA, hg, hr⟩
  · omega
  · exact ⟨g, o, hA, (Array.getElem?_eq_some_iff.1 hg).1⟩
theorem Bs.of_own {base : Nat} (h : w.ownsRow base t 1 (.slice A n c) n (u8s l)) : Bs t w A n c l := by
  have hlen : l.length = n := by have := h.1; rw [u8s_length] at this; omega
  rcases h.2 with ⟨he, h0⟩ | ⟨g, cap, cur, hv, hb, hg, hnc, hcm, hcs, htk⟩
  · injection he with e1 e2 e3; subst e3; subst e1; subst h0
    exact ⟨hlen, Nat.zero_le _, by simp [maxLen], .inl rfl⟩
  · injection hv with e1 _ e3
    subst e3
    refine ⟨hlen, hnc, hcm, .inr ⟨g, 0, cur, (0, 0), e1, hg, fun j u hu => ?_⟩⟩
    have hj : j < n := by
      have := (List.getElem?_eq_some_iff.1 hu).1
      rw [u8s_length] at this; omega
    rw [← htk, List.getElem?_take_of_lt (by omega)] at hu
    simpa using hu
/-- A cut: as the walk spells it. -/
theorem Bs.cut (h : Bs t w A n c l) {lo hi : Nat} (h1 : lo ≤ hi) (h2 : hi ≤ n) :
    Bs t w (if c = lo then A else A.map (·.add (lo * 1))) (hi - lo) (c - lo) ((l.drop lo).take (hi - lo)) := by
  have hl := h.len
  have hc := h.cap
  have hm := h.most
  refine ⟨by rw [List.length_take, List.length_drop]; omega, by omega, by omega, ?_⟩
  rcases Nat.eq_or_lt_of_le h1 with e | hlt
  · left; omega
  · right
    rcases h.row with h0 | ⟨g, o, cs, fr, hA, hg, hr⟩
    · omega
    · rw [if_neg (by omega)]
      refine ⟨g, o + lo, cs, fr, by rw [hA, Option.map_some, Addr.add_mid, Nat.mul_one], hg, fun j u hu => ?_⟩
      have hu' : (u8s l)[lo + j]? = some u := by
        have hj : j < hi - lo := by
          have := (List.getElem?_eq_some_iff.1 hu).1
          rw [u8s_length, List.length_take] at this; omega
        rw [← hu]
        simp only [u8s, List.getElem?_map, List.getElem?_take_of_lt hj, List.getElem?_drop]
      have := hr _ u hu'
      rwa [← Nat.add_assoc] at this
/-- string(b) -/
theorem Bs.toString (h : Bs t w A n c l) {src dst te : TypeId} (hs : P.underlying src = some (.slice te)) (he : P.underlying te = some (.int .u8)) (hd : P.underlying dst = some .string) :
    (convert src dst (.slice A n c)).run P w = .ok (.string ⟨l.toArray⟩) w := by
  have hl := h.len
  cases A with
  | none =>
    have h0 : n = 0 := by
      rcases h.row with h0 | ⟨g, o, cs, fr, hA, _⟩
      · exact h0
      · cases hA
    subst h0
    have : l = [] := List.eq_nil_of_length_eq_zero hl
    subst this
    rw [run_convert_bytes_string w src dst te none 0 c hs he hd]
    rfl
  | some ad =>
    subst hl
    refine run_convert_bytes_back w src dst te ad c l hs he hd ?_
    intro j hj
    exact h.news rfl j _ (u8s_at hj)
/-- append(own, b...) -/
theorem run_append_bs {base : Nat} {ts ty tb : TypeId} {i : TypeInfo} (ht : P.underlying ts = some (.slice t)) (hi : P.info? t = some i) (hz : i.zero = some (.int .u8 0)) (hsz : i.size = 1) (hby : i.bytes = 1)
    {v : Value} {k : Nat} {xs : List Value} (hown : w.ownsRow base t 1 v k xs) (h : Bs tb w A n c l) (hm : k + n ≤ 140737488351232) (hbase : base ≤ w.heap.size) :
    ∃ v' w', (Builtin.append_ #[ts, ts] ty #[v, .slice A n c]).run P w = .ok v' w' ∧ w'.ownsRow base t 1 v' (k + n) (xs ++ u8s l) ∧ w.grownBy w' v.ownBlock ∧ (v'.ownBlock = v.ownBlock ∨ v'.ownBlock = some w.heap.size) := by
  have hl := h.len
  cases A with
  | none =>
    have h0 : n = 0 := by
      rcases h.row with h0 | ⟨g, o, cs, fr, hA, _⟩
      · exact h0
      · cases hA
    subst h0
    have : l = [] := List.eq_nil_of_length_eq_zero hl
    subst this
    refine ⟨v, w, ?_, by simpa [u8s] using hown, World.grownBy.refl w _, .inl rfl⟩
    rcases hown.2 with ⟨rfl, rfl⟩ | ⟨g, cap, cur, rfl, _, _, hnc, _⟩
    · simp [Builtin.append_, run_underlying ht, sizeOf, typeInfo, hi, Builtin.lenOf, Builtin.firstCells]
    · simp [Builtin.append_, run_underlying ht, sizeOf, typeInfo, hi, Builtin.lenOf, Builtin.firstCells, hnc, storeCells]
  | some ad =>
    obtain ⟨v', w', hrun, h2, h3, _, h5⟩ := run_append_own_at (P := P) w base ts ty t i (.int .u8 0) 1 1 ht hi hz hsz hby rfl (by omega) v k xs hown ad n c (u8s l) (by rw [u8s_length]; omega) (h.news rfl) (u8s_oneCell l) (by simp only [maxLen]; omega) (by omega) hbase
    exact ⟨v', w', hrun, h2, h3, h5⟩
end

section
variable {P : Program} {t : TypeId} {w : World} {A : Option Addr} {n c : Nat} {l : List UInt8} {ops : Array Oper} {rest : List Oper} {o : Oper} {a : Act} {Q : Exit → Act → World → Prop}
/-- 'append(x, y...)' of bytes onto bytes of one's own. -/
theorem wpList_append_bs {tb : TypeId} (hg : o.guard = none) (s x : Operand) (ts : TypeId) (hop : o.op = .call { callee := .builtin .append, args := #[s, x], argTypes := #[ts, ts] })
    {i : TypeInfo} (ht : P.underlying ts = some (.slice t)) (hi : P.info? t = some i) (hz : i.zero = some (.int .u8 0)) (hsz : i.size = 1) (hby : i.bytes = 1)
    (base : Nat) (v : Value) (hv : a.eval s = v) {k : Nat} {xs : List Value} (hown : w.ownsRow base t 1 v k xs) (hx : a.eval x = .slice A n c) (h : Bs tb w A n c l) (hm : k + n ≤ 140737488351232) (hbase : base ≤ w.heap.size)
    (next : ∀ v' w', w'.ownsRow base t 1 v' (k + n) (xs ++ u8s l) → w.grownBy w' v.ownBlock → (v'.ownBlock = v.ownBlock ∨ v'.ownBlock = some w.heap.size) → wpList P ops Q rest (a.put o.dst v') w') : wpList P ops Q (o :: rest) a w := by
  obtain ⟨v', w', hrun, h1, h2, h3⟩ := run_append_bs (ty := o.type) ht hi hz hsz hby hown h hm hbase
  refine wpList_value hg (w' := w') (v := v') ?_ (next v' w' h1 h2 h3)
  simp [execOp, hop, resolve, invoke, builtin, hv, hx, hrun, Result.andThen]
end
/-- Bytes in a block that has just been made. -/
theorem Bs.made (t : TypeId) (w : World) (l : List UInt8) (C : Array Value) (fr : Nat × Nat) (hC : C = (u8s l).toArray) (hl : l.length ≤ maxLen) {n : Nat} (hn : n = l.length) : Bs t (w.alloc (.cells C t fr)) (some ⟨w.heap.size, 0, none⟩) n n l := by
  subst hC; subst hn
  refine ⟨rfl, Nat.le_refl _, hl, .inr ⟨w.heap.size, 0, (u8s l).toArray, fr, rfl, heap_alloc_new w _, fun j u hu => ?_⟩⟩
  simpa using hu
end Go.Proofs.Ytliakkpmmmgmhaa
/- Slices of whatever elements: what they read as; appended onto a row of the call's own. No program in it. -/
namespace Go.Proofs.Ytliakkpmmmgmhaa
open Go.RowKit

/-- The slice (A, n, c) of elements of type t, each of sz cells, reads as these cells. -/
structure Rd (t : TypeId) (sz : Nat) (w : World) (A : Option Addr) (n c : Nat) (xs : List Value) : Prop where
  len : xs.length = n * sz
  cap : n ≤ c
  most : c ≤ maxLen
  row : n = 0 ∨ ∃ g o cs fr, A = some ⟨g, o, none⟩ ∧ w.heap[g]? = some (.cells cs t fr) ∧ ∀ j u, xs[j]? = some u → cs[o + j]? = some u
section
variable {P : Program} {t : TypeId} {sz : Nat} {w w' : World} {A : Option Addr} {n c : Nat} {xs : List Value}
theorem Rd.nil (t : TypeId) (sz : Nat) (w : World) : Rd t sz w none 0 0 [] := ⟨by simp, Nat.le_refl _, by simp [maxLen], .inl rfl⟩
theorem Rd.of_bs {l : List UInt8} (h : Bs t w A n c l) : Rd t 1 w A n c (u8s l) := ⟨by rw [u8s_length]; have := h.len; omega, h.cap, h.most, h.row⟩
theorem Rd.cell (h : Rd t sz w A n c xs) {j : Nat} {u : Value} (hu : xs[j]? = some u) : ∃ g o, A = some ⟨g, o, none⟩ ∧ w.cell? ⟨g, o + j, none⟩ = some u := by
  have hj := (List.getElem?_eq_some_iff.1 hu).1
  rcases h.row with h0 | ⟨g, o, cs, fr, hA, hg, hr⟩
  · have := h.len; subst h0; omega
  · exact ⟨g, o, hA, by rw [cell_of_row w g (o + j) cs t fr hg]; exact hr j u hu⟩
theorem Rd.news (h : Rd t sz w A n c xs) {ad : Addr} (hA : A = some ad) : ∀ j u, xs[j]? = some u → w.cell? (ad.add j) = some u := by
  intro j u hu
  obtain ⟨g, o, hA', hc⟩ := h.cell hu
  rw [hA] at hA'; injection hA' with hA'; subst hA'
  rw [Addr.add_mid]; exact hc
theorem Rd.turned' {S : Nat → Prop} (h : Rd t sz w A n c xs) (k : Turned S w w') (hS : ∀ g o, A = some ⟨g, o, none⟩ → ¬ S g) : Rd t sz w' A n c xs := by
  refine ⟨h.len, h.cap, h.most, ?_⟩
  rcases h.row with h0 | ⟨g, o, cs, fr, hA, hg, hr⟩
  · exact .inl h0
  · exact .inr ⟨g, o, cs, fr, hA, (k.block g ((Array.getElem?_eq_some_iff.1 hg).1) (hS g o hA)).trans hg, hr⟩
theorem Rd.turned {S : Nat → Prop} (h : Rd t sz w A n c xs) (k : Turned S w w') (hS : ∀ k, S k → Not8 t w k) : Rd t sz w' A n c xs := by
  refine ⟨h.len, h.cap, h.most, ?_⟩
  rcases h.row with h0 | ⟨g, o, cs, fr, hA, hg, hr⟩
  · exact .inl h0
  · exact .inr ⟨g, o, cs, fr, hA, (k.block g ((Array.getElem?_eq_some_iff.1 hg).1) (fun hs => hS g hs cs fr hg)).trans hg, hr⟩
theorem Rd.below (h : Rd t sz w A n c xs) (k : Below w.heap.size w w') : Rd t sz w' A n c xs := h.turned (S := fun _ => False) (Turned.of_below k) (fun _ h => h.elim)
theorem Rd.alloc (h : Rd t sz w A n c xs) (o : Obj) : Rd t sz (w.alloc o) A n c xs := h.turned (S := fun _ => False) ((Turned.refl _ _).alloc o) (fun _ h => h.elim)
theorem Rd.drew (h : Rd t sz w A n c xs) : Rd t sz w.drew A n c xs := ⟨h.len, h.cap, h.most, h.row⟩
/-- A block that is known whole, as a slice from its head. -/
theorem Rd.of_blk {g : Nat} {cs : Array Value} (h : Blk w g t cs) (hn : n ≤ c) (hc : c ≤ maxLen) (hs : n * sz ≤ cs.size) : Rd t sz w (some ⟨g, 0, none⟩) n c (cs.toList.take (n * sz)) := by
  refine ⟨by simp; omega, hn, hc, .inr ⟨g, 0, cs, (0, 0), rfl, h, fun j u hu => ?_⟩⟩
  have hj : j < n * sz := by
    have := (List.getElem?_eq_some_iff.1 hu).1
    rw [List.length_take] at this; omega
  rw [List.getElem?_take_of_lt hj] at hu
  simpa using hu
theorem Rd.of_own {base : Nat} (h : w.ownsRow base t sz (.slice A n c) n xs) : Rd t sz w A n c xs := by
  rcases h.2 with ⟨he, h0⟩ | ⟨g, cap, cur, hv, hb, hg, hnc, hcm, hcs, htk⟩
  · injection he with e1 e2 e3; subst e3; subst e1; subst h0
    exact ⟨h.1, Nat.zero_le _, by simp [maxLen], .inl rfl⟩
  · injection hv with e1 _ e3
    subst e3
    refine ⟨h.1, hnc, hcm, .inr ⟨g, 0, cur, (0, 0), e1, hg, fun j u hu => ?_⟩⟩
    have hj : j < n * sz := by
      have := (List.getElem?_eq_some_iff.1 hu).1
      have := h.1; omega
    rw [← htk, List.getElem?_take_of_lt (by omega)] at hu
    simpa using hu
/-- append(own, x...) -/
theorem run_append_rd {base : Nat} {ts ty : TypeId} {i : TypeInfo} {z : Value} {by_ : Nat} (ht : P.underlying ts = some (.slice t)) (hi : P.info? t = some i) (hz : i.zero = some z) (hsz : i.size = sz) (hby : i.bytes = by_) (hzs : z.cells.size = sz) (hpos : 0 < sz)
    {v : Value} {k : Nat} {ys : List Value} (hown : w.ownsRow base t sz v k ys) (h : Rd t sz w A n c xs) (h1 : ∀ u ∈ xs, u.oneCell' = true) (hm : k + n ≤ maxLen) (hbytes : (k + n) * by_ ≤ 140737488355328) (hbase : base ≤ w.heap.size) :
    ∃ v' w', (Builtin.append_ #[ts, ts] ty #[v, .slice A n c]).run P w = .ok v' w' ∧ w'.ownsRow base t sz v' (k + n) (ys ++ xs) ∧ w.grownBy w' v.ownBlock ∧ (v'.ownBlock = v.ownBlock ∨ v'.ownBlock = some w.heap.size) := by
  have hl := h.len
  cases A with
  | none =>
    have h0 : n = 0 := by
      rcases h.row with h0 | ⟨g, o, cs, fr, hA, _⟩
      · exact h0
      · cases hA
    subst h0
    have : xs = [] := List.eq_nil_of_length_eq_zero (by omega)
    subst this
    refine ⟨v, w, ?_, by simpa using hown, World.grownBy.refl w _, .inl rfl⟩
    rcases hown.2 with ⟨rfl, rfl⟩ | ⟨g, cap, cur, rfl, _, _, hnc, _⟩
    · simp [Builtin.append_, run_underlying ht, sizeOf, typeInfo, hi, Builtin.lenOf, Builtin.firstCells]
    · simp [Builtin.append_, run_underlying ht, sizeOf, typeInfo, hi, Builtin.lenOf, Builtin.firstCells, hnc, storeCells]
  | some ad =>
    obtain ⟨v', w', hrun, h2, h3, _, h5⟩ := run_append_own_at (P := P) w base ts ty t i z sz by_ ht hi hz hsz hby hzs hpos v k ys hown ad n c xs hl (h.news rfl) h1 hm hbytes hbase
    exact ⟨v', w', hrun, h2, h3, h5⟩
end
section
variable {P : Program} {t : TypeId} {sz : Nat} {w : World} {A : Option Addr} {n c : Nat} {xs : List Value} {ops : Array Oper} {rest : List Oper} {o : Oper} {a : Act} {Q : Exit → Act → World → Prop}
/-- 'append(x, y...)' onto elements of one's own. -/
theorem wpList_append_rd (hg : o.guard = none) (s x : Operand) (ts : TypeId) (hop : o.op = .call { callee := .builtin .append, args := #[s, x], argTypes := #[ts, ts] })
    {i : TypeInfo} {z : Value} {by_ : Nat} (ht : P.underlying ts = some (.slice t)) (hi : P.info? t = some i) (hz : i.zero = some z) (hsz : i.size = sz) (hby : i.bytes = by_) (hzs : z.cells.size = sz) (hpos : 0 < sz)
    (base : Nat) (v : Value) (hv : a.eval s = v) {k : Nat} {ys : List Value} (hown : w.ownsRow base t sz v k ys) (hx : a.eval x = .slice A n c) (h : Rd t sz w A n c xs) (h1 : ∀ u ∈ xs, u.oneCell' = true) (hm : k + n ≤ maxLen) (hbytes : (k + n) * by_ ≤ 140737488355328) (hbase : base ≤ w.heap.size)
    (next : ∀ v' w', w'.ownsRow base t sz v' (k + n) (ys ++ xs) → w.grownBy w' v.ownBlock → (v'.ownBlock = v.ownBlock ∨ v'.ownBlock = some w.heap.size) → wpList P ops Q rest (a.put o.dst v') w') : wpList P ops Q (o :: rest) a w := by
  obtain ⟨v', w', hrun, h1, h2, h3⟩ := run_append_rd (ty := o.type) ht hi hz hsz hby hzs hpos hown h h1 hm hbytes hbase
  refine wpList_value hg (w' := w') (v := v') ?_ (next v' w' h1 h2 h3)
  simp [execOp, hop, resolve, invoke, builtin, hv, hx, hrun, Result.andThen]
/-- What one owns from a base on, as a slice; its block is new. -/
theorem own_form {base : Nat} {v : Value} {k : Nat} {ys : List Value} (h : w.ownsRow base t sz v k ys) : ∃ A c, v = .slice A k c ∧ ∀ g, v.ownBlock = some g → base ≤ g := by
  rcases h.2 with ⟨rfl, rfl⟩ | ⟨g, cap, cur, rfl, hb, _⟩
  · exact ⟨none, 0, rfl, fun g e => by simp [Value.ownBlock] at e⟩
  · exact ⟨_, _, rfl, fun g' e => by simp [Value.ownBlock] at e; omega⟩
/-- The first ones of what one owns. -/
theorem own_zero {base : Nat} {A : Option Addr} {k c : Nat} {ys : List Value} (h : w.ownsRow base t sz (.slice A k c) k ys) : w.ownsRow base t sz (.slice A 0 c) 0 [] := by
  refine ⟨by simp, ?_⟩
  rcases h.2 with ⟨he, h0⟩ | ⟨g, cap, cur, hv, hb, hg, hnc, hcm, hcs, htk⟩
  · injection he with e1 e2 e3; subst e1; subst e3; exact .inl ⟨rfl, rfl⟩
  · injection hv with e1 e2 e3; subst e1; subst e3
    exact .inr ⟨g, c, cur, rfl, hb, hg, Nat.zero_le _, hcm, hcs, by simp⟩
end
/-- A part of what is put together. -/
structure Part where
  A : Option Addr
  n : Nat
  c : Nat
  xs : List Value
def partVal (p : Part) : Value := .slice p.A p.n p.c
def total (ps : List Part) : Nat := (ps.map (·.n)).sum
def allXs (ps : List Part) : List Value := ps.flatMap (·.xs)
theorem total_snoc (ps : List Part) (p : Part) : total (ps ++ [p]) = total ps + p.n := by simp [total]
theorem allXs_snoc (ps : List Part) (p : Part) : allXs (ps ++ [p]) = allXs ps ++ p.xs := by simp [allXs]
theorem take_snoc' {α : Type} {l : List α} {k : Nat} {x : α} (h : l[k]? = some x) : l.take (k + 1) = l.take k ++ [x] := by
  obtain ⟨hlt, he⟩ := List.getElem?_eq_some_iff.1 h
  rw [List.take_succ_eq_append_getElem hlt, he]
theorem total_take_le (ps : List Part) (k : Nat) : total (ps.take k) ≤ total ps := by
  have : total ps = total (ps.take k) + total (ps.drop k) := by
    unfold total; rw [← List.sum_append, ← List.map_append, List.take_append_drop]
  omega
end Go.Proofs.Ytliakkpmmmgmhaa
/- slices.Clone of bytes: the same bytes in a block of its own. -/
namespace Go.Proofs.Ytliakkpmmmgmhaa
open Go.RowKit

theorem info8 : (Try.prog.info? 5).map (fun i => (i.zero, i.size, i.bytes)) = some (some (.int .u8 0), 1, 1) := by kernel_rfl
/-- A slice of bytes that the call made: it reads as l, and lies in a block that is new since w0. -/
def Fresh (w0 w' : World) (v : Value) (l : List UInt8) : Prop :=
  ∃ A n c, v = .slice A n c ∧ Bs 5 w' A n c l ∧ ∀ g o, A = some ⟨g, o, none⟩ → w0.heap.size ≤ g
theorem Fresh.of_own {w0 w' : World} {v : Value} {k : Nat} {l : List UInt8} (h : w'.ownsRow w0.heap.size 5 1 v k (u8s l)) : Fresh w0 w' v l := by
  have h' := h
  rcases h'.2 with ⟨rfl, rfl⟩ | ⟨g, cap, cur, rfl, hb, _⟩
  · exact ⟨none, 0, 0, rfl, Bs.of_own h, fun g o e => by cases e⟩
  · exact ⟨_, _, _, rfl, Bs.of_own h, fun g o e => by injection e with e; injection e with e; omega⟩
theorem Fresh.nil (w0 w' : World) : Fresh w0 w' (.slice none 0 0) [] := ⟨none, 0, 0, rfl, Bs.nil _ _, fun g o e => by cases e⟩
theorem Fresh.turned {w0 w' w'' : World} {v : Value} {l : List UInt8} {S : Nat → Prop} (h : Fresh w0 w' v l) (k : Turned S w' w'') (hS : ∀ k, S k → Not8 5 w' k) : Fresh w0 w'' v l := by
  obtain ⟨A, n, c, rfl, hb, hf⟩ := h
  exact ⟨A, n, c, rfl, hb.turned k hS, hf⟩
theorem Fresh.older {w0 w0' w' : World} {v : Value} {l : List UInt8} (h : Fresh w0' w' v l) (hs : w0.heap.size ≤ w0'.heap.size) : Fresh w0 w' v l := by
  obtain ⟨A, n, c, rfl, hb, hf⟩ := h
  exact ⟨A, n, c, rfl, hb, fun g o e => Nat.le_trans hs (hf g o e)⟩
/-- A call tells a slice of bytes of its own, and turns nothing. -/
def GivesBytes (w : World) (l : List UInt8) (e : Ending) (w' : World) : Prop := ∃ v, e = .returned v ∧ Fresh w w' v l ∧ Below w.heap.size w w'

set_option maxHeartbeats 1000000 in
set_option maxRecDepth 100000 in
theorem clone_c {tb : TypeId} (A : Option Addr) (n c : Nat) (l : List UInt8) (w : World) (h : Bs tb w A n c l) (hn : n ≤ 140737488351232) :
    Calls Try.prog 27 #[.slice A n c] w (GivesBytes w l) := by
  have HH := Lib.hid h
  have HN := Lib.hid hn
  clear h hn
  have hq := fun W => Lib.run_eql_slice_nil (P := Try.prog) W 31 5 A n c 0 0 Try.underlying31
  obtain ⟨i0, hi, hz, hs, hb⟩ := info_parts info8
  have HI := Lib.hid (And.intro hi (And.intro hz (And.intro hs hb)))
  clear hi hz hs hb
  cases A with
  | none =>
    go_enter Try.func27, Try.ntmps27
    go_wp2
    go_ret
    obtain rfl : l = [] := by
      have hl := HH.out.len
      rcases HH.out.row with h0 | ⟨g, o, cs, fr, hA, _⟩
      · exact List.eq_nil_of_length_eq_zero (by omega)
      · cases hA
    exact ⟨_, rfl, Fresh.nil _ _, Below.refl _ _⟩
  | some ad =>
    go_enter Try.func27, Try.ntmps27
    go_wp2_with (
      (refine at_dst 7 rfl ?_)
      (refine wpList_append_bs rfl (.tmp 5) (.tmp 6) 31 rfl Try.underlying31 HI.out.1 HI.out.2.1 HI.out.2.2.1 HI.out.2.2.2 w.heap.size (.slice (some ⟨w.heap.size, 0, none⟩) 0 0) rfl (World.ownsRow_made w #[] 0 (Nat.le_refl _) (Nat.zero_le _) rfl) rfl (HH.out.alloc _) (by have := HN.out; omega) (by simp) ?_)
      intro v1 w1 hown1 hgr1 hat1)
    go_ret
    refine ⟨_, rfl, Fresh.of_own (k := 0 + n) (by simpa using hown1), ?_⟩
    exact ((Below.refl _ _).alloc (Nat.le_refl _) _).grown hgr1 (by simp) (by simp [Value.ownBlock])
end Go.Proofs.Ytliakkpmmmgmhaa
/- slices.Grow and slices.Concat at one element type. -/
namespace Go.Proofs.Ytliakkpmmmgmhaa.CatByte
open Go.RowKit

theorem info : (Try.prog.info? 5).map (fun i => (i.zero, i.size, i.bytes)) = some (some (.int .u8 0), 1, 1) := by kernel_rfl
/-- Room for elements of one's own. -/
def Grown0 (w : World) (e : Ending) (w' : World) : Prop := ∃ A c, e = .returned (.slice A 0 c) ∧ w'.ownsRow w.heap.size 5 1 (.slice A 0 c) 0 [] ∧ Below w.heap.size w w'

set_option maxRecDepth 100000 in
set_option maxHeartbeats 1000000 in
theorem grow_c (n : Nat) (w : World) (hn : n ≤ 1000000) : Calls Try.prog 71 #[.slice none 0 0, .int .i64 n] w (Grown0 w) := by
  have HI := Lib.hid (info_parts info)
  rcases Nat.eq_zero_or_pos n with rfl | hpos
  · go_enter Try.func71, Try.ntmps71
    go_wp2
    go_ret
    exact ⟨none, 0, rfl, World.ownsRow_nil _ _ _ _, Below.refl _ _⟩
  · go_enter Try.func71, Try.ntmps71
    go_wp2_with (
      (refine at_dst 22 rfl ?_)
      obtain ⟨i0, hi, hz, hs, hb⟩ := HI.out
      (refine Lib.wpList_append_run _ rfl (.tmp 20) (.tmp 21) 31 3 rfl (.slice none 0 0) (.int .i64 n) rfl rfl _ _ (Lib.run_append_nil_zeros w 31 3 _ 5 i0 _ .i64 .i64 Try.underlying31 Try.underlying3 hi hz n hpos (by rw [hs]; decide) (by omega) (by rw [hb]; omega)) ?_)
      have hcap := grownCap_ge w n 0 5
      have hmax := grownCap_le_maxLen w n 0 5 (by simp only [maxLen]; omega)
      have hsz : (Builtin.zeroCells (.int .u8 0 : Value).cells n ++ Builtin.zeroCells (.int .u8 0 : Value).cells (grownCap w n 0 5 - n)).size = grownCap w n 0 5 * 1 := by
        rw [Array.size_append, size_zeroCells, size_zeroCells, ← Nat.add_mul]
        show (n + (grownCap w n 0 5 - n)) * 1 = _
        rw [show n + (grownCap w n 0 5 - n) = grownCap w n 0 5 by omega]
      generalize grownCap w n 0 5 = cap at *
      generalize Builtin.zeroCells (.int .u8 0 : Value).cells n ++ Builtin.zeroCells (.int .u8 0 : Value).cells (cap - n) = cells at *
      have HS := Lib.hid (And.intro hsz hmax)
      clear hsz hmax hi hz hs hb)
    go_ret
    exact ⟨_, _, rfl, World.ownsRow_made w.drew cells cap (Nat.le_refl _) HS.out.2 HS.out.1, ((Below.refl _ _).drew).alloc (Nat.le_refl _) _⟩

/-- What is put together, in a row of its own. -/
def Put (w : World) (n : Nat) (xs : List Value) (e : Ending) (w' : World) : Prop := ∃ A c, e = .returned (.slice A n c) ∧ w'.ownsRow w.heap.size 5 1 (.slice A n c) n xs ∧ Below w.heap.size w w'

set_option maxRecDepth 100000 in
set_option maxHeartbeats 2000000 in
theorem concat_c (pb cap : Nat) (C : Array Value) (ps : List Part) (w : World) (hb : Blk w pb 31 C) (hC : ∀ (j : Nat) (p : Part), ps[j]? = some p → C[j]? = some (partVal p)) (hr : ∀ p ∈ ps, Rd 5 1 w p.A p.n p.c p.xs) (h1 : ∀ p ∈ ps, ∀ u ∈ p.xs, u.oneCell' = true)
    (hk : ps.length ≤ 10) (hn : total ps ≤ 1000000) : Calls Try.prog 46 #[.slice (some ⟨pb, 0, none⟩) ps.length cap] w (Put w (total ps) (allXs ps)) := by
  have HI := Lib.hid (info_parts info)
  have HB := Lib.hid (And.intro hb (And.intro hC (And.intro hr h1)))
  have hlt := hb.lt
  clear hb hC hr h1
  go_enter Try.func46, Try.ntmps46
  go_wp2
  go_loop [3, 11] (fun s i => ∃ k : Nat, k ≤ ps.length ∧ i = .int .i64 k ∧ s = .int .i64 (total (ps.take k))) (fun _ i => ps.length - (intOf i).toNat)
  case atStart => exact ⟨0, Nat.zero_le _, rfl, rfl⟩
  case round =>
    obtain ⟨k, hk2, rfl, rfl⟩ := hrel
    have hle := total_take_le ps k
    by_cases hlk : k < ps.length
    · obtain ⟨p, hp⟩ : ∃ p, ps[k]? = some p := ⟨_, List.getElem?_eq_getElem hlk⟩
      have c0 : w.cell? ⟨pb, k, none⟩ = some (.slice p.A p.n p.c) := (HB.out.1.cell k).trans (HB.out.2.1 k p hp)
      have hnext := take_snoc' hp
      have hle2 := total_take_le ps (k + 1)
      rw [hnext, total_snoc] at hle2
      have HN := Lib.hid hnext
      clear hnext hp
      have hs0 : (0 : Int) ≤ (total (ps.take k) : Int) + p.n := by omega
      go_wp2_with fail
      go_round
      case rel => exact ⟨k + 1, by omega, by go_num, by rw [HN.out, total_snoc]; go_num⟩
      case measure => simp [intOf]; omega
    · obtain rfl : k = ps.length := by omega
      rw [List.take_length]
      go_wp2_with fail
      refine (grow_c _ _ (by omega)).mono ?_
      rintro e w1 ⟨A, c, rfl, hown, hbel⟩
      have H1 := Lib.hid (And.intro hown hbel)
      clear hown hbel hle
      go_wp2_with fail
      go_loopw [6, 27] (fun v i wr => ∃ k : Nat, k ≤ ps.length ∧ i = .int .i64 k ∧ Hid (wr.ownsRow w.heap.size 5 1 v (total (ps.take k)) (allXs (ps.take k))) ∧ Hid (Below w.heap.size w wr)) (fun _ i _ => ps.length - (intOf i).toNat)
      case atStart => exact ⟨0, Nat.zero_le _, rfl, H1.out.1, H1.out.2⟩
      case round =>
        clear H1
        obtain ⟨k, hk3, rfl, HO, HW⟩ := hrel
        have hle := total_take_le ps k
        by_cases hlk : k < ps.length
        · obtain ⟨p, hp⟩ : ∃ p, ps[k]? = some p := ⟨_, List.getElem?_eq_getElem hlk⟩
          obtain ⟨A1, c1, rfl, hfresh⟩ := own_form HO.out
          have hmem := List.mem_of_getElem? hp
          have c0 : wr.cell? ⟨pb, k, none⟩ = some (.slice p.A p.n p.c) := ((HB.out.1.below HW.out hlt).cell k).trans (HB.out.2.1 k p hp)
          have hnext := take_snoc' hp
          have hle2 := total_take_le ps (k + 1)
          rw [hnext, total_snoc] at hle2
          have hrd := (HB.out.2.2.1 p hmem).below HW.out
          have h1 := HB.out.2.2.2 p hmem
          have HN := Lib.hid (And.intro hnext (And.intro hrd (And.intro h1 hfresh)))
          clear hnext hp hrd h1 hmem hfresh
          go_wp2_with (
            (refine at_dst 33 rfl ?_)
            obtain ⟨i0, hi, hz, hs, hb⟩ := HI.out
            (refine wpList_append_rd rfl (.tmp 31) (.tmp 32) 31 rfl Try.underlying31 hi hz hs hb rfl (by decide) w.heap.size (.slice A1 (total (ps.take k)) c1) rfl HO.out rfl HN.out.2.1 HN.out.2.2.1 (by simp only [maxLen]; omega) (by omega) HW.out.size ?_)
            intro v2 w2 hown2 hgr2 _
            have HO2 := Lib.hid hown2
            have HW2 := Lib.hid (HW.out.grown hgr2 HW.out.size HN.out.2.2.2)
            clear hown2 hgr2 hi hz hs hb)
          go_roundw
          case rel => exact ⟨k + 1, by omega, by go_num, by rw [HN.out.1, total_snoc, allXs_snoc]; exact HO2.out, HW2⟩
          case measure => simp [intOf]; omega
        · obtain rfl : k = ps.length := by omega
          rw [List.take_length] at HO
          obtain ⟨A1, c1, rfl, _⟩ := own_form HO.out
          go_wp2_with fail
          go_ret
          exact ⟨A1, c1, rfl, HO.out, HW.out⟩
end Go.Proofs.Ytliakkpmmmgmhaa.CatByte
/- The pool in memory; what Get does. -/
namespace Go.Proofs.Ytliakkpmmmgmhaa
open Go.RowKit

/-- A frame: its page (none: -1), its mark, where its bytes lie, and what they are. -/
structure Frm where
  page : Int
  mark : Bool
  A : Option Addr
  n : Nat
  c : Nat
  l : List UInt8
/-- The cells of frames. -/
def FrameRow (C : Array Value) (L : List Frm) : Prop :=
  ∀ i f, L[i]? = some f → C[i * 3]? = some (.int .i64 f.page) ∧ C[i * 3 + 1]? = some (.bool f.mark) ∧ C[i * 3 + 2]? = some (.slice f.A f.n f.c)
/-- A pool in memory: its blocks, its frames, its hand, its counts. -/
structure PoolG where
  p : Nat
  fb : Nat
  mb : Nat
  cap : Nat
  C : Array Value
  L : List Frm
  hand : Nat
  hits : Int
  misses : Int
  m : List (Int × Value)
def PoolG.head (G : PoolG) : Array Value := #[.slice (some ⟨G.fb, 0, none⟩) G.L.length G.cap, .int .i64 G.hand, .map (some G.mb), .int .i64 G.hits, .int .i64 G.misses]
structure PoolRep (w : World) (G : PoolG) : Prop where
  bp : Blk w G.p 61 G.head
  bf : Blk w G.fb 64 G.C
  bm : IMap w G.mb G.m
  row : FrameRow G.C G.L
  size : G.C.size = G.cap * 3
  cap : G.L.length ≤ G.cap
  most : G.cap ≤ maxLen
  pos : 0 < G.L.length
  len : G.L.length ≤ 64
  hand : G.hand < G.L.length
  idx : ∀ n v, mget G.m n = some v ↔ ∃ (i : Nat) (f : Frm), G.L[i]? = some f ∧ f.page = n ∧ 0 ≤ n ∧ v = .int .i64 i
  low : ∀ f ∈ G.L, -1 ≤ f.page ∧ f.page ≤ 9223372036854775807
  uniq : ∀ (i j : Nat) (f g : Frm), G.L[i]? = some f → G.L[j]? = some g → f.page = g.page → 0 ≤ f.page → i = j
  vals : ∀ f ∈ G.L, Bs 5 w f.A f.n f.c f.l
  fits : ∀ f ∈ G.L, f.n ≤ 1000
/-- The pool's own blocks, its bytes aside. -/
def PoolG.own (G : PoolG) (k : Nat) : Prop := k = G.p ∨ k = G.fb ∨ k = G.mb

section
variable {w w' : World} {G : PoolG}
theorem PoolRep.p_ne_fb (h : PoolRep w G) : G.p ≠ G.fb := h.bp.ne_ h.bf (by decide)
theorem PoolRep.mb_ne_p (h : PoolRep w G) : G.mb ≠ G.p := h.bm.ne_blk h.bp
theorem PoolRep.mb_ne_fb (h : PoolRep w G) : G.mb ≠ G.fb := h.bm.ne_blk h.bf
theorem PoolRep.not8 (h : PoolRep w G) : ∀ k, G.own k → Not8 5 w k := by
  rintro k (rfl | rfl | rfl)
  · exact h.bp.not8 (by decide)
  · exact h.bf.not8 (by decide)
  · exact h.bm.not8
theorem PoolRep.turned {S : Nat → Prop} (h : PoolRep w G) (k : Turned S w w') (hp : ¬ S G.p) (hf : ¬ S G.fb) (hm : ¬ S G.mb) (h8 : ∀ k, S k → Not8 5 w k) : PoolRep w' G :=
  { h with bp := h.bp.turned k hp, bf := h.bf.turned k hf, bm := h.bm.turned k hm, vals := fun f hf => (h.vals f hf).turned k h8 }
theorem PoolRep.alloc (h : PoolRep w G) (o : Obj) : PoolRep (w.alloc o) G := h.turned (S := fun _ => False) ((Turned.refl _ _).alloc o) id id id (fun _ h => h.elim)
theorem PoolRep.drewN (h : PoolRep w G) (n : Nat) : PoolRep (w.drewN n) G := h.turned (S := fun _ => False) ((Turned.refl _ _).drewN n) id id id (fun _ h => h.elim)
theorem PoolRep.below (h : PoolRep w G) (k : Below w.heap.size w w') : PoolRep w' G := h.turned (S := fun _ => False) (Turned.of_below k) id id id (fun _ h => h.elim)
end

/-- Frames with another one at a place. -/
theorem FrameRow.set {C : Array Value} {L : List Frm} (h : FrameRow C L) (i : Nat) (f : Frm) :
    FrameRow (((C.setIfInBounds (i * 3) (.int .i64 f.page)).setIfInBounds (i * 3 + 1) (.bool f.mark)).setIfInBounds (i * 3 + 2) (.slice f.A f.n f.c)) (L.set i f) ∨ ¬ (i * 3 + 2 < C.size) := by
  by_cases hs : i * 3 + 2 < C.size
  · left
    intro j g hg
    by_cases e : i = j
    · subst e
      rw [List.getElem?_set] at hg
      simp at hg
      obtain ⟨_, rfl⟩ := hg
      refine ⟨?_, ?_, ?_⟩ <;> simp [Array.getElem?_setIfInBounds] <;> (try split) <;> (try omega) <;> simp_all <;> omega
    · rw [List.getElem?_set_ne e] at hg
      obtain ⟨h0, h1, h2⟩ := h j g hg
      refine ⟨?_, ?_, ?_⟩
      · rw [Array.getElem?_setIfInBounds_ne (by omega), Array.getElem?_setIfInBounds_ne (by omega), Array.getElem?_setIfInBounds_ne (by omega)]; exact h0
      · rw [Array.getElem?_setIfInBounds_ne (by omega), Array.getElem?_setIfInBounds_ne (by omega), Array.getElem?_setIfInBounds_ne (by omega)]; exact h1
      · rw [Array.getElem?_setIfInBounds_ne (by omega), Array.getElem?_setIfInBounds_ne (by omega), Array.getElem?_setIfInBounds_ne (by omega)]; exact h2
  · exact .inr hs
theorem FrameRow.marked {C : Array Value} {L : List Frm} (h : FrameRow C L) {i : Nat} {f : Frm} (hf : L[i]? = some f) (b : Bool) :
    FrameRow (C.setIfInBounds (i * 3 + 1) (.bool b)) (L.set i { f with mark := b }) := by
  intro j g hg
  by_cases e : i = j
  · subst e
    rw [List.getElem?_set] at hg
    simp at hg
    obtain ⟨_, rfl⟩ := hg
    obtain ⟨h0, h1, h2⟩ := h i f hf
    refine ⟨?_, ?_, ?_⟩
    · rw [Array.getElem?_setIfInBounds_ne (by omega)]; exact h0
    · have := (Array.getElem?_eq_some_iff.1 h1).1
      rw [Array.getElem?_setIfInBounds_self_of_lt this]
    · rw [Array.getElem?_setIfInBounds_ne (by omega)]; exact h2
  · rw [List.getElem?_set_ne e] at hg
    obtain ⟨h0, h1, h2⟩ := h j g hg
    refine ⟨?_, ?_, ?_⟩
    · rw [Array.getElem?_setIfInBounds_ne (by omega)]; exact h0
    · rw [Array.getElem?_setIfInBounds_ne (by omega)]; exact h1
    · rw [Array.getElem?_setIfInBounds_ne (by omega)]; exact h2

/-- A frame's mark, the hand, and the count of hits, are other ones. -/
def PoolG.remark (G : PoolG) (i : Nat) (f : Frm) (b : Bool) (hand : Nat) (hits : Int) : PoolG := { G with L := G.L.set i { f with mark := b }, C := G.C.setIfInBounds (i * 3 + 1) (.bool b), hand := hand, hits := hits }
/-- Get found a page: the frame is marked. -/
def PoolG.hit (G : PoolG) (i : Nat) (f : Frm) : PoolG := G.remark i f true G.hand (wrap64 (G.hits + 1))
def PoolG.miss (G : PoolG) : PoolG := { G with misses := wrap64 (G.misses + 1) }

theorem mem_set {L : List Frm} {i : Nat} {f g : Frm} (h : g ∈ L.set i f) : g = f ∨ g ∈ L := (List.mem_or_eq_of_mem_set h).symm
theorem PoolRep.remark {w w' : World} {G : PoolG} (h : PoolRep w G) {i : Nat} {f : Frm} (hf : G.L[i]? = some f) {b : Bool} {hand : Nat} {hits : Int} (hh : hand < G.L.length) (hp : Blk w' G.p 61 (G.remark i f b hand hits).head) (hb : Blk w' G.fb 64 (G.remark i f b hand hits).C) (k : Turned G.own w w') (hm : IMap w' G.mb G.m) : PoolRep w' (G.remark i f b hand hits) := by
  have hmem : f ∈ G.L := List.mem_of_getElem? hf
  have hlt := (List.getElem?_eq_some_iff.1 hf).1
  have key : ∀ (j : Nat) (g : Frm), (G.L.set i { f with mark := b })[j]? = some g → ∃ g' : Frm, G.L[j]? = some g' ∧ g'.page = g.page := by
    intro j g hg
    by_cases e : i = j
    · subst e; rw [List.getElem?_set] at hg; simp at hg; obtain ⟨_, rfl⟩ := hg; exact ⟨f, hf, rfl⟩
    · rw [List.getElem?_set_ne e] at hg; exact ⟨g, hg, rfl⟩
  have key2 : ∀ (j : Nat) (g' : Frm), G.L[j]? = some g' → ∃ g : Frm, (G.L.set i { f with mark := b })[j]? = some g ∧ g.page = g'.page := by
    intro j g' hg
    by_cases e : i = j
    · subst e; rw [hf] at hg; injection hg with hg; subst hg
      exact ⟨{ f with mark := b }, by rw [List.getElem?_set]; simp [hlt], rfl⟩
    · exact ⟨g', by rw [List.getElem?_set_ne e]; exact hg, rfl⟩
  refine ⟨hp, hb, hm, h.row.marked hf b, by simpa [PoolG.remark] using h.size, by simpa [PoolG.remark] using h.cap, h.most, by simpa [PoolG.remark] using h.pos, by simpa [PoolG.remark] using h.len, by simpa [PoolG.remark] using hh, ?_, ?_, ?_, ?_, ?_⟩
  · intro n v
    show mget G.m n = some v ↔ _
    rw [h.idx n v]
    constructor
    · rintro ⟨j, g', hg, h1, h2, h3⟩
      obtain ⟨g, hg2, he⟩ := key2 j g' hg
      exact ⟨j, g, hg2, he.trans h1, h2, h3⟩
    · rintro ⟨j, g, hg, h1, h2, h3⟩
      obtain ⟨g', hg2, he⟩ := key j g hg
      exact ⟨j, g', hg2, he.trans h1, h2, h3⟩
  · intro g hg
    rcases mem_set hg with rfl | hg
    · exact h.low f hmem
    · exact h.low g hg
  · intro a b x y hx hy hxy h0
    obtain ⟨x', hx', ex⟩ := key a x hx
    obtain ⟨y', hy', ey⟩ := key b y hy
    exact h.uniq a b x' y' hx' hy' (by rw [ex, ey, hxy]) (by rw [ex]; exact h0)
  · intro g hg
    rcases mem_set hg with rfl | hg
    · exact (h.vals f hmem).turned k h.not8
    · exact (h.vals g hg).turned k h.not8
  · intro g hg
    rcases mem_set hg with rfl | hg
    · exact h.fits f hmem
    · exact h.fits g hg
theorem PoolRep.miss {w w' : World} {G : PoolG} (h : PoolRep w G) (hp : Blk w' G.p 61 G.miss.head) (k : Turned (fun k => k = G.p) w w') : PoolRep w' G.miss :=
  { bp := hp, bf := h.bf.turned k (fun e => h.p_ne_fb e.symm), bm := h.bm.turned k h.mb_ne_p, row := h.row, size := h.size, cap := h.cap, most := h.most, pos := h.pos, len := h.len, hand := h.hand, idx := h.idx, low := h.low, uniq := h.uniq,
    vals := fun f hf => (h.vals f hf).turned k (fun j e => by subst e; exact h.bp.not8 (by decide)), fits := h.fits }
end Go.Proofs.Ytliakkpmmmgmhaa
/- What Get of a pool does. -/
namespace Go.Proofs.Ytliakkpmmmgmhaa
open Go.RowKit

theorem ret_tuple2 {v v' u u' : Value} (h : v = v') (k : u = u') : Ending.returned (.tuple #[v, u]) = .returned (.tuple #[v', u']) := by rw [h, k]
/-- What Get tells of a page that is at hand. -/
def GotHit (w : World) (G : PoolG) (i : Nat) (f : Frm) (e : Ending) (w' : World) : Prop :=
  ∃ v, e = .returned (.tuple #[v, .bool true]) ∧ Fresh w w' v f.l ∧ PoolRep w' (G.hit i f) ∧ Turned G.own w w'
def GotMiss (w : World) (G : PoolG) (e : Ending) (w' : World) : Prop :=
  e = .returned (.tuple #[.slice none 0 0, .bool false]) ∧ PoolRep w' G.miss ∧ Turned G.own w w'

set_option maxRecDepth 100000 in
set_option maxHeartbeats 1000000 in
theorem get_none (n : Int) (w : World) : Calls Try.prog 11 #[.pointer none, .int .i64 n] w fun e w' => e = .returned (.tuple #[.slice none 0 0, .bool false]) ∧ w = w' := by
  go_enter Try.func11, Try.ntmps11
  go_wp2
  go_ret2
  exact ⟨rfl, rfl⟩

set_option maxRecDepth 100000 in
set_option maxHeartbeats 1000000 in
theorem get_miss (G : PoolG) (n : Int) (w : World) (h : PoolRep w G) (hn : mget G.m n = none) :
    Calls Try.prog 11 #[.pointer (some ⟨G.p, 0, none⟩), .int .i64 n] w (GotMiss w G) := by
  have hz : ∀ W, (zeroValue 3).run Try.prog W = .ok (.int .i64 0) W := fun _ => by kernel_rfl
  have hl := h.bm.lookup_no Try.underlying58 Try.underlying3 (hz w) hn
  have c2 : w.cell? ⟨G.p, 2, none⟩ = some (.map (some G.mb)) := by rw [h.bp.cell]; rfl
  have c4 : w.cell? ⟨G.p, 4, none⟩ = some (.int .i64 G.misses) := by rw [h.bp.cell]; rfl
  have f4 := h.bp.frozen 4
  have HH := Lib.hid h
  clear h hn hz
  go_enter Try.func11, Try.ntmps11
  go_wp2
  go_ret2
  refine ⟨rfl, HH.out.miss ?_ ?_, ?_⟩
  · have := HH.out.bp.set_ 4 (.int .i64 (wrap64 (G.misses + 1)))
    simpa [PoolG.head, PoolG.miss] using this
  · exact Turned.setCell (S := fun k => k = G.p) (Turned.refl _ w) (p := ⟨G.p, 4, none⟩) (fun _ => rfl) _
  · exact (Turned.refl _ w).setCell (p := ⟨G.p, 4, none⟩) (fun _ => Or.inl rfl) _

theorem hit_world {G : PoolG} {i : Nat} {f : Frm} {w : World} (h : PoolRep w G) (hf : G.L[i]? = some f) :
    PoolRep ((w.setCell ⟨G.p, 3, none⟩ (.int .i64 (wrap64 (G.hits + 1)))).setCell ⟨G.fb, i * 3 + 1, none⟩ (.bool true)) (G.hit i f) ∧
    Turned G.own w ((w.setCell ⟨G.p, 3, none⟩ (.int .i64 (wrap64 (G.hits + 1)))).setCell ⟨G.fb, i * 3 + 1, none⟩ (.bool true)) := by
  have hT : Turned G.own w ((w.setCell ⟨G.p, 3, none⟩ (.int .i64 (wrap64 (G.hits + 1)))).setCell ⟨G.fb, i * 3 + 1, none⟩ (.bool true)) :=
    ((Turned.refl _ w).setCell (p := ⟨G.p, 3, none⟩) (fun _ => Or.inl rfl) _).setCell (p := ⟨G.fb, i * 3 + 1, none⟩) (fun _ => Or.inr (Or.inl rfl)) _
  refine ⟨h.remark hf h.hand ?_ ?_ hT ((h.bm.setCell _ _).setCell _ _), hT⟩
  · have := (h.bp.set_ 3 (.int .i64 (wrap64 (G.hits + 1)))).far (p := ⟨G.fb, i * 3 + 1, none⟩) h.p_ne_fb (.bool true)
    simpa [PoolG.head, PoolG.remark] using this
  · exact (h.bf.far (p := ⟨G.p, 3, none⟩) (fun e => h.p_ne_fb e.symm) _).set_ (i * 3 + 1) (.bool true)

set_option maxRecDepth 100000 in
set_option maxHeartbeats 1000000 in
theorem get_hit (G : PoolG) (n : Int) (i : Nat) (f : Frm) (w : World) (h : PoolRep w G) (hn : mget G.m n = some (.int .i64 i)) (hf : G.L[i]? = some f) :
    Calls Try.prog 11 #[.pointer (some ⟨G.p, 0, none⟩), .int .i64 n] w (GotHit w G i f) := by
  have hl := h.bm.lookup_yes Try.underlying58 Try.underlying3 hn
  have c0 : w.cell? ⟨G.p, 0, none⟩ = some (.slice (some ⟨G.fb, 0, none⟩) G.L.length G.cap) := by rw [h.bp.cell]; rfl
  have c2 : w.cell? ⟨G.p, 2, none⟩ = some (.map (some G.mb)) := by rw [h.bp.cell]; rfl
  have c3 : w.cell? ⟨G.p, 3, none⟩ = some (.int .i64 G.hits) := by rw [h.bp.cell]; rfl
  have f3 := h.bp.frozen 3
  obtain ⟨r0, r1, r2⟩ := h.row i f hf
  have c5 : w.cell? ⟨G.fb, i * 3 + 1, none⟩ = some (.bool f.mark) := by rw [h.bf.cell]; exact r1
  have c6 : w.cell? ⟨G.fb, i * 3 + 2, none⟩ = some (.slice f.A f.n f.c) := by rw [h.bf.cell]; exact r2
  have f5 := h.bf.frozen (i * 3 + 1)
  have hlt : i < G.L.length := (List.getElem?_eq_some_iff.1 hf).1
  have hi0 : (0 : Int) ≤ i := by omega
  have hi1 : (i : Int) < G.L.length := by omega
  have hne := h.p_ne_fb
  have hmem : f ∈ G.L := List.mem_of_getElem? hf
  have hv := Lib.hid (h.vals f hmem)
  have hfit := Lib.hid (h.fits f hmem)
  have HH := Lib.hid h
  have HF := Lib.hid hf
  clear h hn hf r0 r1 r2 hmem
  go_enter Try.func11, Try.ntmps11
  go_wp2_with fail
  obtain ⟨hP, hT⟩ := hit_world HH.out HF.out
  refine (clone_c f.A f.n f.c f.l _ (hv.out.turned hT HH.out.not8) (by have := hfit.out; omega)).mono ?_
  rintro e w2 ⟨v, rfl, hfr, hb⟩
  have HP := Lib.hid (hP.below hb)
  have HT := Lib.hid (hT.trans (Turned.of_below (S := fun _ => False) hb) (fun _ _ h => h.elim))
  have HF2 := Lib.hid (hfr.older (w0 := w) (by simp [World.setCell]))
  clear hP hT hb hfr
  go_wp2
  go_ret2
  exact ⟨v, rfl, HF2.out, HP.out, HT.out⟩
end Go.Proofs.Ytliakkpmmmgmhaa
/- What Drop of a pool does. -/
namespace Go.Proofs.Ytliakkpmmmgmhaa
open Go.RowKit

/-- A frame's cells, written. -/
def putF (C : Array Value) (i : Nat) (f : Frm) : Array Value := ((C.setIfInBounds (i * 3) (.int .i64 f.page)).setIfInBounds (i * 3 + 1) (.bool f.mark)).setIfInBounds (i * 3 + 2) (.slice f.A f.n f.c)
/-- The pool with another frame at a place, another hand, other entries of its map. -/
def PoolG.frame (G : PoolG) (i : Nat) (f : Frm) (m : List (Int × Value)) : PoolG := { G with L := G.L.set i f, C := putF G.C i f, m := m }

theorem frame_ok {w w' : World} {G : PoolG} {i : Nat} {f f' : Frm} {m : List (Int × Value)} (h : PoolRep w G) (hf : G.L[i]? = some f) (k : Turned G.own w w')
    (hp : Blk w' G.p 61 (G.frame i f' m).head) (hb : Blk w' G.fb 64 (putF G.C i f')) (hm : IMap w' G.mb m)
    (hv : Bs 5 w' f'.A f'.n f'.c f'.l) (hfit : f'.n ≤ 1000) (hlow : -1 ≤ f'.page ∧ f'.page ≤ 9223372036854775807)
    (hnew : 0 ≤ f'.page → ∀ (j : Nat) (g : Frm), G.L[j]? = some g → g.page = f'.page → j = i)
    (hm' : ∀ n, mget m n = if 0 ≤ f'.page ∧ n = f'.page then some (.int .i64 i) else if 0 ≤ f.page ∧ n = f.page then none else mget G.m n) : PoolRep w' (G.frame i f' m) := by
  have hmem : f ∈ G.L := List.mem_of_getElem? hf
  have hlt := (List.getElem?_eq_some_iff.1 hf).1
  have hC : i * 3 + 2 < G.C.size := by have := h.size; have := h.cap; omega
  have hat : ∀ (j : Nat) (g : Frm), (G.L.set i f')[j]? = some g ↔ (j = i ∧ g = f') ∨ (j ≠ i ∧ G.L[j]? = some g) := by
    intro j g
    by_cases e : i = j
    · subst e; rw [List.getElem?_set]; simp [hlt]; exact ⟨fun h => h.symm, fun h => h.symm⟩
    · rw [List.getElem?_set_ne e]; simp [Ne.symm e]
  refine ⟨hp, hb, hm, ?_, by simpa [PoolG.frame, putF] using h.size, by simpa [PoolG.frame] using h.cap, h.most, by simpa [PoolG.frame] using h.pos, by simpa [PoolG.frame] using h.len, by simpa [PoolG.frame] using h.hand, ?_, ?_, ?_, ?_, ?_⟩
  · rcases h.row.set i f' with hr | hr
    · exact hr
    · exact absurd hC hr
  · intro n v
    show mget m n = some v ↔ _
    rw [hm' n]
    show _ ↔ ∃ (j : Nat) (g : Frm), (G.L.set i f')[j]? = some g ∧ _
    by_cases h1 : 0 ≤ f'.page ∧ n = f'.page
    · rw [if_pos h1]
      constructor
      · intro e; injection e with e
        exact ⟨i, f', (hat _ _).2 (.inl ⟨rfl, rfl⟩), h1.2.symm, by omega, e.symm⟩
      · rintro ⟨j, g, hg, hgp, h0, rfl⟩
        rcases (hat j g).1 hg with ⟨rfl, _⟩ | ⟨hne, hg⟩
        · rfl
        · exact absurd (hnew h1.1 j g hg (by omega)) hne
    · rw [if_neg h1]
      by_cases h2 : 0 ≤ f.page ∧ n = f.page
      · rw [if_pos h2]
        constructor
        · intro e; cases e
        · rintro ⟨j, g, hg, hgp, h0, rfl⟩
          rcases (hat j g).1 hg with ⟨rfl, rfl⟩ | ⟨hne, hg⟩
          · exact absurd ⟨by omega, hgp.symm⟩ h1
          · exact absurd (h.uniq j i g f hg hf (by omega) (by omega)) hne
      · rw [if_neg h2, h.idx n v]
        constructor
        · rintro ⟨j, g, hg, hgp, h0, e⟩
          refine ⟨j, g, (hat _ _).2 (.inr ⟨?_, hg⟩), hgp, h0, e⟩
          rintro rfl
          rw [hf] at hg; injection hg with hg; subst hg
          exact h2 ⟨by omega, hgp.symm⟩
        · rintro ⟨j, g, hg, hgp, h0, e⟩
          rcases (hat j g).1 hg with ⟨rfl, rfl⟩ | ⟨hne, hg⟩
          · exact absurd ⟨by omega, hgp.symm⟩ h1
          · exact ⟨j, g, hg, hgp, h0, e⟩
  · intro g hg
    rcases mem_set hg with rfl | hg
    · exact hlow
    · exact h.low g hg
  · intro a b x y hx hy hxy h0
    replace hx : (G.L.set i f')[a]? = some x := hx
    replace hy : (G.L.set i f')[b]? = some y := hy
    rcases (hat a x).1 hx with ⟨ha, hx2⟩ | ⟨ha, hx2⟩
    · rcases (hat b y).1 hy with ⟨hb, hy2⟩ | ⟨hb, hy2⟩
      · rw [ha, hb]
      · rw [hx2] at h0 hxy; rw [ha]; exact (hnew h0 b y hy2 hxy.symm).symm
    · rcases (hat b y).1 hy with ⟨hb, hy2⟩ | ⟨hb, hy2⟩
      · rw [hy2] at hxy; rw [hb]; exact hnew (by omega) a x hx2 hxy
      · exact h.uniq a b x y hx2 hy2 hxy h0
  · intro g hg
    rcases mem_set hg with rfl | hg
    · exact hv
    · exact (h.vals g hg).turned k h.not8
  · intro g hg
    rcases mem_set hg with rfl | hg
    · exact hfit
    · exact h.fits g hg

/-- A frame without a page. -/
def noFrm : Frm := { page := -1, mark := false, A := none, n := 0, c := 0, l := [] }
def PoolG.drop (G : PoolG) (i : Nat) (n : Int) : PoolG := G.frame i noFrm (mdel G.m n)

set_option maxRecDepth 100000 in
set_option maxHeartbeats 1000000 in
theorem drop_none (n : Int) (w : World) : Calls Try.prog 14 #[.pointer none, .int .i64 n] w fun e w' => e = .returned (.bool false) ∧ w = w' := by
  go_enter Try.func14, Try.ntmps14
  go_wp2
  go_ret
  exact ⟨rfl, rfl⟩
set_option maxRecDepth 100000 in
set_option maxHeartbeats 1000000 in
theorem drop_miss (G : PoolG) (n : Int) (w : World) (h : PoolRep w G) (hn : mget G.m n = none) :
    Calls Try.prog 14 #[.pointer (some ⟨G.p, 0, none⟩), .int .i64 n] w fun e w' => e = .returned (.bool false) ∧ w = w' := by
  have hz : ∀ W, (zeroValue 3).run Try.prog W = .ok (.int .i64 0) W := fun _ => by kernel_rfl
  have hl := h.bm.lookup_no Try.underlying58 Try.underlying3 (hz w) hn
  have c2 : w.cell? ⟨G.p, 2, none⟩ = some (.map (some G.mb)) := by rw [h.bp.cell]; rfl
  clear h hn hz
  go_enter Try.func14, Try.ntmps14
  go_wp2
  go_ret
  exact ⟨rfl, rfl⟩
def Dropped (w : World) (G : PoolG) (i : Nat) (n : Int) (e : Ending) (w' : World) : Prop := e = .returned (.bool true) ∧ PoolRep w' (G.drop i n) ∧ Turned G.own w w'
/-- The world in which a frame's cells are written. -/
def putW (w : World) (fb i : Nat) (f : Frm) : World := ((w.setCell ⟨fb, i * 3, none⟩ (.int .i64 f.page)).setCell ⟨fb, i * 3 + 1, none⟩ (.bool f.mark)).setCell ⟨fb, i * 3 + 2, none⟩ (.slice f.A f.n f.c)
theorem putW_blk {w : World} {fb i : Nat} {t : TypeId} {C : Array Value} (h : Blk w fb t C) (f : Frm) : Blk (putW w fb i f) fb t (putF C i f) := ((h.set_ _ _).set_ _ _).set_ _ _
theorem putW_far {w : World} {fb i g : Nat} {t : TypeId} {C : Array Value} (h : Blk w g t C) (f : Frm) (hne : g ≠ fb) : Blk (putW w fb i f) g t C :=
  ((h.far (p := ⟨fb, i * 3, none⟩) hne _).far (p := ⟨fb, i * 3 + 1, none⟩) hne _).far (p := ⟨fb, i * 3 + 2, none⟩) hne _
theorem putW_map {w : World} {fb i g : Nat} {m : List (Int × Value)} (h : IMap w g m) (f : Frm) : IMap (putW w fb i f) g m := ((h.setCell _ _).setCell _ _).setCell _ _
theorem putW_turned {S : Nat → Prop} {w : World} {fb i : Nat} (f : Frm) (hS : S fb) : Turned S w (putW w fb i f) :=
  (((Turned.refl S w).setCell (p := ⟨fb, i * 3, none⟩) (fun _ => hS) _).setCell (p := ⟨fb, i * 3 + 1, none⟩) (fun _ => hS) _).setCell (p := ⟨fb, i * 3 + 2, none⟩) (fun _ => hS) _
theorem putW_size (w : World) (fb i : Nat) (f : Frm) : (putW w fb i f).heap.size = w.heap.size := by simp [putW, World.setCell]

set_option maxRecDepth 100000 in
set_option maxHeartbeats 1000000 in
theorem drop_hit (G : PoolG) (n : Int) (i : Nat) (f : Frm) (w : World) (h : PoolRep w G) (hn : mget G.m n = some (.int .i64 i)) (hf : G.L[i]? = some f) (hpg : f.page = n) (h0 : 0 ≤ n) :
    Calls Try.prog 14 #[.pointer (some ⟨G.p, 0, none⟩), .int .i64 n] w (Dropped w G i n) := by
  have hl := h.bm.lookup_yes Try.underlying58 Try.underlying3 hn
  have c0 : w.cell? ⟨G.p, 0, none⟩ = some (.slice (some ⟨G.fb, 0, none⟩) G.L.length G.cap) := by rw [h.bp.cell]; rfl
  have c2 : w.cell? ⟨G.p, 2, none⟩ = some (.map (some G.mb)) := by rw [h.bp.cell]; rfl
  obtain ⟨r0, r1, r2⟩ := h.row i f hf
  have c4 : w.cell? ⟨G.fb, i * 3, none⟩ = some (.int .i64 f.page) := by rw [h.bf.cell]; exact r0
  have c5 : w.cell? ⟨G.fb, i * 3 + 1, none⟩ = some (.bool f.mark) := by rw [h.bf.cell]; exact r1
  have c6 : w.cell? ⟨G.fb, i * 3 + 2, none⟩ = some (.slice f.A f.n f.c) := by rw [h.bf.cell]; exact r2
  have f4 := h.bf.frozen (i * 3)
  have f5 := h.bf.frozen (i * 3 + 1)
  have f6 := h.bf.frozen (i * 3 + 2)
  have hlt : i < G.L.length := (List.getElem?_eq_some_iff.1 hf).1
  have hi0 : (0 : Int) ≤ i := by omega
  have hi1 : (i : Int) < G.L.length := by omega
  have hne := h.p_ne_fb
  have HH := Lib.hid h
  have HF := Lib.hid hf
  have HP := Lib.hid hpg
  clear h hn hf r0 r1 r2 hpg
  go_enter Try.func14, Try.ntmps14
  go_wp2_with (
    at_delete
    (refine wpList_mdel rfl (.tmp 29) (.tmp 30) 58 3 rfl Try.underlying58 Try.underlying3 rfl n rfl (putW_map (fb := G.fb) (i := i) HH.out.bm noFrm) ?_)
    intro w1 hm1 ht1 hs1
    have HM := Lib.hid hm1
    have HT := Lib.hid ht1
    clear hm1 ht1 hs1)
  go_ret
  have h := HH.out
  have hT : Turned G.own w w1 := (putW_turned noFrm (Or.inr (Or.inl rfl))).trans HT.out (fun k _ e => by subst e; exact Or.inr (Or.inr rfl))
  refine ⟨rfl, ?_, hT⟩
  refine frame_ok h HF.out hT ?_ ?_ HM.out (Bs.nil _ _) (by decide) ⟨by decide, by decide⟩ (fun h => absurd h (by decide)) ?_
  · have := (putW_far (fb := G.fb) (i := i) h.bp noFrm h.p_ne_fb).turned HT.out (fun e => h.mb_ne_p e.symm)
    simpa [PoolG.head, PoolG.frame] using this
  · exact (putW_blk (i := i) h.bf noFrm).turned HT.out (fun e => h.mb_ne_fb e.symm)
  · intro k
    rw [HP.out, if_neg (show ¬ (0 ≤ noFrm.page ∧ k = noFrm.page) from fun h => absurd h.1 (by decide)), mget_del]
    by_cases e : k = n
    · rw [if_pos e, if_pos ⟨h0, e⟩]
    · rw [if_neg e, if_neg (fun h => e h.2)]
end Go.Proofs.Ytliakkpmmmgmhaa
/- The frame that a new page takes. -/
namespace Go.Proofs.Ytliakkpmmmgmhaa
open Go.RowKit

set_option maxRecDepth 100000 in
set_option maxHeartbeats 1000000 in
theorem empty_c (f : Frm) (w : World) : Calls Try.prog 55 #[.agg #[.int .i64 f.page, .bool f.mark, .slice f.A f.n f.c]] w fun e w' => e = .returned (.bool (decide (f.page < 0))) ∧ Below w.heap.size w w' := by
  go_enter Try.func55, Try.ntmps55
  go_wp2
  go_ret
  exact ⟨rfl, (Below.refl _ _).alloc (Nat.le_refl _) _⟩

/-- The first frame that is empty. -/
def firstEmpty (L : List Frm) : Int := match L.findIdx? (fun f => decide (f.page < 0)) with | some i => i | none => -1
theorem firstEmpty_at {L : List Frm} {i : Nat} {f : Frm} (hf : L[i]? = some f) (h : f.page < 0) (hb : ∀ j g, j < i → L[j]? = some g → 0 ≤ g.page) : firstEmpty L = i := by
  have : L.findIdx? (fun f => decide (f.page < 0)) = some i := by
    rw [List.findIdx?_eq_some_iff_getElem]
    obtain ⟨hlt, he⟩ := List.getElem?_eq_some_iff.1 hf
    refine ⟨hlt, by rw [he]; simpa using h, fun j hj => ?_⟩
    have := hb j L[j] hj (List.getElem?_eq_getElem (by omega))
    simpa using this
  unfold firstEmpty; rw [this]
theorem firstEmpty_none {L : List Frm} (hb : ∀ j g, j < L.length → L[j]? = some g → 0 ≤ g.page) : firstEmpty L = -1 := by
  have : L.findIdx? (fun f => decide (f.page < 0)) = none := by
    rw [List.findIdx?_eq_none_iff]
    intro x hx
    obtain ⟨j, hj⟩ := List.mem_iff_getElem?.1 hx
    have := hb j x (List.getElem?_eq_some_iff.1 hj).1 hj
    simpa using this
  unfold firstEmpty; rw [this]

set_option maxRecDepth 100000 in
set_option maxHeartbeats 2000000 in
theorem index_c (fb cap : Nat) (C : Array Value) (L : List Frm) (w : World) (hb : Blk w fb 64 C) (hr : FrameRow C L) (hL : L.length ≤ 64) :
    Calls Try.prog 54 #[.slice (some ⟨fb, 0, none⟩) L.length cap, .func (.func 55) #[] #[]] w fun e w' => e = .returned (.int .i64 (firstEmpty L)) ∧ Below w.heap.size w w' := by
  have HB := Lib.hid hb
  have HR := Lib.hid hr
  have hlt := hb.lt
  clear hb hr
  go_enter Try.func54, Try.ntmps54
  go_wp2
  go_loopw [8] (fun i wr => ∃ k : Nat, k ≤ L.length ∧ i = .int .i64 k ∧ Hid (∀ j g, j < k → L[j]? = some g → 0 ≤ g.page) ∧ Hid (Below w.heap.size w wr)) (fun i _ => L.length - (intOf i).toNat)
  case atStart => exact ⟨0, Nat.zero_le _, rfl, fun j g hj => by omega, Below.refl _ _⟩
  case round =>
    obtain ⟨k, hk, rfl, HP, HW⟩ := hrel
    by_cases hkl : k < L.length
    · obtain ⟨f, hf⟩ : ∃ f, L[k]? = some f := ⟨_, List.getElem?_eq_getElem hkl⟩
      obtain ⟨r0, r1, r2⟩ := HR.out k f hf
      have hb2 := HB.out.below HW.out hlt
      have c0 : wr.cell? ⟨fb, k * 3, none⟩ = some (.int .i64 f.page) := by rw [hb2.cell]; exact r0
      have c1 : wr.cell? ⟨fb, k * 3 + 1, none⟩ = some (.bool f.mark) := by rw [hb2.cell]; exact r1
      have c2 : wr.cell? ⟨fb, k * 3 + 2, none⟩ = some (.slice f.A f.n f.c) := by rw [hb2.cell]; exact r2
      have HF := Lib.hid hf
      clear hf r0 r1 r2 hb2
      go_wp2_with fail
      refine (empty_c f _).mono ?_; rintro e w1 ⟨rfl, h1⟩
      have H1 := Lib.hid (HW.out.trans (h1.mono HW.out.size)); clear h1
      go_wp2_with fail
      · have hneg : f.page < 0 := by assumption
        go_ret
        exact ⟨by rw [firstEmpty_at HF.out hneg HP.out]; rfl, H1.out⟩
      · have hneg : 0 ≤ f.page := by assumption
        go_roundw
        case rel =>
          refine ⟨k + 1, by omega, by go_num, ?_, H1⟩
          intro j g hj hg
          by_cases e : j = k
          · subst e; rw [HF.out] at hg; injection hg with hg; subst hg; exact hneg
          · exact HP.out j g (by omega) hg
        case measure => simp [intOf]; omega
    · obtain rfl : k = L.length := by omega
      go_wp2_with fail
      go_ret
      exact ⟨by rw [firstEmpty_none HP.out]; rfl, HW.out⟩

/-- The hand goes on over marked frames, and takes their marks; it stops at one without a mark. -/
inductive Sweep : List Frm → Nat → Nat → List Frm → Nat → Prop
  | stop {L : List Frm} {h : Nat} {f : Frm} (hf : L[h]? = some f) (hm : f.mark = false) : Sweep L h h L ((h + 1) % L.length)
  | go {L : List Frm} {h : Nat} {f : Frm} {a : Nat} {L' : List Frm} {h' : Nat} (hf : L[h]? = some f) (hm : f.mark = true) (k : Sweep (L.set h { f with mark := false }) ((h + 1) % L.length) a L' h') : Sweep L h a L' h'
/-- The pool behind a sweep. -/
def PoolG.swept (G : PoolG) (L : List Frm) (C : Array Value) (h : Nat) : PoolG := { G with L := L, C := C, hand := h }
def Placed (w : World) (G : PoolG) (e : Ending) (w' : World) : Prop :=
  ∃ (a : Nat) (L : List Frm) (C : Array Value) (h : Nat), e = .returned (.int .i64 a) ∧ ((firstEmpty G.L = a ∧ L = G.L ∧ h = G.hand) ∨ (firstEmpty G.L = -1 ∧ Sweep G.L G.hand a L h)) ∧ PoolRep w' (G.swept L C h) ∧ Turned G.own w w'

theorem firstEmpty_lt {L : List Frm} (h : 0 ≤ firstEmpty L) : ∃ (i : Nat) (f : Frm), firstEmpty L = i ∧ L[i]? = some f ∧ f.page < 0 := by
  unfold firstEmpty at *
  cases hi : L.findIdx? (fun f => decide (f.page < 0)) with
  | none => rw [hi] at h; simp at h
  | some i =>
    rw [List.findIdx?_eq_some_iff_getElem] at hi
    obtain ⟨hlt, hp, _⟩ := hi
    exact ⟨i, L[i], rfl, List.getElem?_eq_getElem hlt, by simpa using hp⟩
theorem firstEmpty_ge (L : List Frm) : -1 ≤ firstEmpty L := by
  unfold firstEmpty; split <;> omega
def marks (L : List Frm) : Nat := (L.filter (·.mark)).length
theorem marks_set {L : List Frm} {h : Nat} {f : Frm} (hf : L[h]? = some f) (hm : f.mark = true) : marks (L.set h { f with mark := false }) + 1 = marks L := by
  induction L generalizing h with
  | nil => simp at hf
  | cons x L ih =>
    cases h with
    | zero =>
      simp at hf; subst hf
      simp [marks, hm]
    | succ h =>
      simp at hf
      have := ih hf
      unfold marks at *
      simp only [List.set_cons_succ, List.filter_cons]
      split <;> simp_all
theorem place_mod (G : PoolG) : ((G.hand : Int) + 1) % (G.L.length : Int) = (((G.hand + 1) % G.L.length : Nat) : Int) := by norm_cast

/-- The world in which the hand has gone on. -/
theorem hand_world {G : PoolG} {w : World} (h : PoolRep w G) (h' : Nat) (hh : h' < G.L.length) :
    PoolRep (w.setCell ⟨G.p, 1, none⟩ (.int .i64 h')) { G with hand := h' } ∧ Turned G.own w (w.setCell ⟨G.p, 1, none⟩ (.int .i64 h')) := by
  have hT : Turned G.own w (w.setCell ⟨G.p, 1, none⟩ (.int .i64 h')) := (Turned.refl _ w).setCell (p := ⟨G.p, 1, none⟩) (fun _ => Or.inl rfl) _
  refine ⟨?_, hT⟩
  refine ⟨?_, h.bf.far (p := ⟨G.p, 1, none⟩) (fun e => h.p_ne_fb e.symm) _, h.bm.setCell _ _, h.row, h.size, h.cap, h.most, h.pos, h.len, hh, h.idx, h.low, h.uniq, fun f hf => (h.vals f hf).turned hT h.not8, h.fits⟩
  have := h.bp.set_ 1 (.int .i64 h')
  simpa [PoolG.head] using this
theorem sweep_world {G : PoolG} {w : World} {f : Frm} (h : PoolRep w G) (hf : G.L[G.hand]? = some f) (h' : Nat) (hh : h' < G.L.length) :
    PoolRep ((w.setCell ⟨G.p, 1, none⟩ (.int .i64 h')).setCell ⟨G.fb, G.hand * 3 + 1, none⟩ (.bool false)) (G.remark G.hand f false h' G.hits) ∧
    Turned G.own w ((w.setCell ⟨G.p, 1, none⟩ (.int .i64 h')).setCell ⟨G.fb, G.hand * 3 + 1, none⟩ (.bool false)) := by
  have hT : Turned G.own w ((w.setCell ⟨G.p, 1, none⟩ (.int .i64 h')).setCell ⟨G.fb, G.hand * 3 + 1, none⟩ (.bool false)) :=
    ((Turned.refl _ w).setCell (p := ⟨G.p, 1, none⟩) (fun _ => Or.inl rfl) _).setCell (p := ⟨G.fb, G.hand * 3 + 1, none⟩) (fun _ => Or.inr (Or.inl rfl)) _
  refine ⟨h.remark hf hh ?_ ?_ hT ((h.bm.setCell _ _).setCell _ _), hT⟩
  · have := (h.bp.set_ 1 (.int .i64 h')).far (p := ⟨G.fb, G.hand * 3 + 1, none⟩) h.p_ne_fb (.bool false)
    simpa [PoolG.head, PoolG.remark] using this
  · exact (h.bf.far (p := ⟨G.p, 1, none⟩) (fun e => h.p_ne_fb e.symm) _).set_ (G.hand * 3 + 1) (.bool false)

/-- A pool in the midst of a sweep. -/
def Mid (w : World) (G : PoolG) (k : Nat) (wr : World) : Prop :=
  ∃ G' : PoolG, marks G'.L = k ∧ G'.p = G.p ∧ G'.fb = G.fb ∧ G'.mb = G.mb ∧ G'.cap = G.cap ∧ G'.hits = G.hits ∧ G'.misses = G.misses ∧ G'.m = G.m ∧ G'.L.length = G.L.length ∧ PoolRep wr G' ∧ Turned G.own w wr ∧ (∀ a L h, Sweep G'.L G'.hand a L h → Sweep G.L G.hand a L h)

set_option maxRecDepth 100000 in
set_option maxHeartbeats 2000000 in
theorem place_c (G : PoolG) (w : World) (h : PoolRep w G) : Calls Try.prog 26 #[.pointer (some ⟨G.p, 0, none⟩)] w (Placed w G) := by
  have c0 : w.cell? ⟨G.p, 0, none⟩ = some (.slice (some ⟨G.fb, 0, none⟩) G.L.length G.cap) := by rw [h.bp.cell]; rfl
  have HH := Lib.hid h
  clear h
  by_cases hneg : 0 ≤ firstEmpty G.L
  · obtain ⟨i, f, hi, hf, _⟩ := firstEmpty_lt hneg
    go_enter Try.func26, Try.ntmps26
    go_wp2_with fail
    refine (index_c G.fb G.cap G.C G.L _ HH.out.bf HH.out.row HH.out.len).mono ?_; rintro e w1 ⟨rfl, h1⟩
    have H1 := Lib.hid h1
    have HI := Lib.hid hi
    clear h1 hi hf
    go_wp2_with fail
    go_ret
    exact ⟨i, G.L, G.C, G.hand, by rw [← HI.out]; rfl, .inl ⟨HI.out, rfl, rfl⟩, HH.out.below H1.out, Turned.of_below H1.out⟩
  · have hm1 := firstEmpty_ge G.L
    have he : firstEmpty G.L = -1 := by omega
    go_enter Try.func26, Try.ntmps26
    go_wp2_with fail
    refine (index_c G.fb G.cap G.C G.L _ HH.out.bf HH.out.row HH.out.len).mono ?_; rintro e w1 ⟨rfl, h1⟩
    rw [he]
    have HE := Lib.hid he
    have H1 := Lib.hid h1
    clear h1 he hneg hm1
    go_wp2_with fail
    go_loopg [4] (marks G.L) (fun kq _v4 wr => Mid w G kq wr)
    case atStart => exact ⟨G, rfl, rfl, rfl, rfl, rfl, rfl, rfl, rfl, rfl, HH.out.below H1.out, Turned.of_below H1.out, fun a L h k => k⟩
    case round =>
      obtain ⟨G', e1, e2, e3, e4, e5, e6, e7, e8, e9, hP, hT, hS⟩ := hrel
      have hhand := hP.hand
      obtain ⟨f, hf⟩ : ∃ f, G'.L[G'.hand]? = some f := ⟨_, List.getElem?_eq_getElem hhand⟩
      obtain ⟨r0, r1, r2⟩ := hP.row _ f hf
      have b0 : wr.cell? ⟨G.p, 0, none⟩ = some (.slice (some ⟨G.fb, 0, none⟩) G'.L.length G'.cap) := by rw [← e2, ← e3, hP.bp.cell]; rfl
      have b1 : wr.cell? ⟨G.p, 1, none⟩ = some (.int .i64 G'.hand) := by rw [← e2, hP.bp.cell]; rfl
      have b2 : wr.cell? ⟨G.fb, G'.hand * 3 + 1, none⟩ = some (.bool f.mark) := by rw [← e3, hP.bf.cell]; exact r1
      have g1 : wr.frozen? ⟨G.p, 1, none⟩ = false := by rw [← e2]; exact hP.bp.frozen 1
      have g2 : wr.frozen? ⟨G.fb, G'.hand * 3 + 1, none⟩ = false := by rw [← e3]; exact hP.bf.frozen _
      have hne : G.p ≠ G.fb := HH.out.p_ne_fb
      have hlen := hP.len
      have hpos := hP.pos
      have hm := Lib.hid (place_mod G')
      have hi0 : (0 : Int) ≤ G'.hand := by omega
      have hi1 : (G'.hand : Int) < G'.L.length := by omega
      have hz : ((G'.L.length : Int) == 0) = false := beq_eq_false_iff_ne.mpr (by omega)
      cases hmk : f.mark with
      | true =>
        rw [hmk] at b2
        have E := Lib.hid (And.intro e1 (And.intro e2 (And.intro e3 (And.intro e4 (And.intro e5 (And.intro e6 (And.intro e7 (And.intro e8 e9))))))))
        have HR := Lib.hid (And.intro hP (And.intro hT hS))
        have HF := Lib.hid (And.intro hf hmk)
        clear e1 e2 e3 e4 e5 e6 e7 e8 e9 hP hT hS hf hmk r0 r1 r2 c0
        go_wp2_with fail
        rw [hm.out]
        obtain ⟨e1, e2, e3, e4, e5, e6, e7, e8, e9⟩ := E.out
        obtain ⟨hP, hT, hS⟩ := HR.out
        obtain ⟨hf, hmk⟩ := HF.out
        have hk := marks_set hf hmk
        have hh : (G'.hand + 1) % G'.L.length < G'.L.length := Nat.mod_lt _ hP.pos
        obtain ⟨hP2, hT2⟩ := sweep_world hP hf _ hh
        go_roundg (marks (G'.L.set G'.hand { f with mark := false }))
        case measure => omega
        case rel =>
          rw [← e2, ← e3]
          refine ⟨G'.remark G'.hand f false _ G'.hits, rfl, e2, e3, e4, e5, e6, e7, e8, ?_, hP2, hT.trans hT2 ?_, ?_⟩
          · show (G'.L.set _ _).length = _; rw [List.length_set]; exact e9
          · intro k _ hk; unfold PoolG.own at *; rw [e2, e3, e4] at hk; exact hk
          · intro a L h k; exact hS a L h (Sweep.go hf hmk k)
      | false =>
        rw [hmk] at b2
        have E := Lib.hid (And.intro e1 (And.intro e2 (And.intro e3 (And.intro e4 (And.intro e5 (And.intro e6 (And.intro e7 (And.intro e8 e9))))))))
        have HR := Lib.hid (And.intro hP (And.intro hT hS))
        have HF := Lib.hid (And.intro hf hmk)
        clear e1 e2 e3 e4 e5 e6 e7 e8 e9 hP hT hS hf hmk r0 r1 r2 c0
        go_wp2_with fail
        go_ret
        rw [hm.out]
        obtain ⟨e1, e2, e3, e4, e5, e6, e7, e8, e9⟩ := E.out
        obtain ⟨hP, hT, hS⟩ := HR.out
        obtain ⟨hf, hmk⟩ := HF.out
        have hh : (G'.hand + 1) % G'.L.length < G'.L.length := Nat.mod_lt _ hP.pos
        obtain ⟨hP2, hT2⟩ := hand_world hP _ hh
        rw [← e2]
        refine ⟨G'.hand, G'.L, G'.C, _, rfl, .inr ⟨HE.out, hS _ _ _ (Sweep.stop hf hmk)⟩, ?_, hT.trans hT2 ?_⟩
        · have : G.swept G'.L G'.C ((G'.hand + 1) % G'.L.length) = { G' with hand := (G'.hand + 1) % G'.L.length } := by
            cases G; cases G'; simp only [PoolG.swept] at *; subst e2; subst e3; subst e4; subst e5; subst e6; subst e7; subst e8; rfl
          rw [this]; exact hP2
        · intro k _ hk; unfold PoolG.own at *; rw [e2, e3, e4] at hk; exact hk
end Go.Proofs.Ytliakkpmmmgmhaa
