/- Slices of whatever elements: what they read as; appended onto a row of the call's own. No program in it. -/
import Derived.Test.YtliakkpmmmgmhaaBytes
import Derived.Lib.AppendZeros
namespace Go.Proofs.Ytliakkpmmmgmhaa
open Go.RowKit

/-- The slice (A, n, c) of elements of type t, each of sz cells, reads as these cells. -/
structure Rd (t : TypeId) (sz : Nat) (w : World) (A : Option Addr) (n c : Nat) (xs : List Value) : Prop where
  len : xs.length = n * sz
  cap : n ≤ c
  most : c ≤ maxLen
  row : n = 0 ∨ ∃ g o cs fr, A = some ⟨g, o, none⟩ ∧ w.heap[g]? = some (.cells cs t fr) ∧ ∀ j u, xs[j]? = some u → cs[o + j]? = some u
section
variable {P : Program} {t : TypeId} {sz : Nat} {w w' : World} {A : Option Addr} {n c : Nat} {xs : List Value}
theorem Rd.nil (t : TypeId) (sz : Nat) (w : World) : Rd t sz w none 0 0 [] := ⟨by simp, Nat.le_refl _, by simp [maxLen], .inl rfl⟩
theorem Rd.of_bs {l : List UInt8} (h : Bs t w A n c l) : Rd t 1 w A n c (u8s l) := ⟨by rw [u8s_length]; have := h.len; omega, h.cap, h.most, h.row⟩
theorem Rd.cell (h : Rd t sz w A n c xs) {j : Nat} {u : Value} (hu : xs[j]? = some u) : ∃ g o, A = some ⟨g, o, none⟩ ∧ w.cell? ⟨g, o + j, none⟩ = some u := by
  have hj := (List.getElem?_eq_some_iff.1 hu).1
  rcases h.row with h0 | ⟨g, o, cs, fr, hA, hg, hr⟩
  · have := h.len; subst h0; omega
  · exact ⟨g, o, hA, by rw [cell_of_row w g (o + j) cs t fr hg]; exact hr j u hu⟩
theorem Rd.news (h : Rd t sz w A n c xs) {ad : Addr} (hA : A = some ad) : ∀ j u, xs[j]? = some u → w.cell? (ad.add j) = some u := by
  intro j u hu
  obtain ⟨g, o, hA', hc⟩ := h.cell hu
  rw [hA] at hA'; injection hA' with hA'; subst hA'
  rw [Addr.add_mid]; exact hc
theorem Rd.turned' {S : Nat → Prop} (h : Rd t sz w A n c xs) (k : Turned S w w') (hS : ∀ g o, A = some ⟨g, o, none⟩ → ¬ S g) : Rd t sz w' A n c xs := by
  refine ⟨h.len, h.cap, h.most, ?_⟩
  rcases h.row with h0 | ⟨g, o, cs, fr, hA, hg, hr⟩
  · exact .inl h0
  · exact .inr ⟨g, o, cs, fr, hA, (k.block g ((Array.getElem?_eq_some_iff.1 hg).1) (hS g o hA)).trans hg, hr⟩
theorem Rd.turned {S : Nat → Prop} (h : Rd t sz w A n c xs) (k : Turned S w w') (hS : ∀ k, S k → Not8 t w k) : Rd t sz w' A n c xs := by
  refine ⟨h.len, h.cap, h.most, ?_⟩
  rcases h.row with h0 | ⟨g, o, cs, fr, hA, hg, hr⟩
  · exact .inl h0
  · exact .inr ⟨g, o, cs, fr, hA, (k.block g ((Array.getElem?_eq_some_iff.1 hg).1) (fun hs => hS g hs cs fr hg)).trans hg, hr⟩
theorem Rd.below (h : Rd t sz w A n c xs) (k : Below w.heap.size w w') : Rd t sz w' A n c xs := h.turned (S := fun _ => False) (Turned.of_below k) (fun _ h => h.elim)
theorem Rd.alloc (h : Rd t sz w A n c xs) (o : Obj) : Rd t sz (w.alloc o) A n c xs := h.turned (S := fun _ => False) ((Turned.refl _ _).alloc o) (fun _ h => h.elim)
theorem Rd.drew (h : Rd t sz w A n c xs) : Rd t sz w.drew A n c xs := ⟨h.len, h.cap, h.most, h.row⟩
/-- A block that is known whole, as a slice from its head. -/
theorem Rd.of_blk {g : Nat} {cs : Array Value} (h : Blk w g t cs) (hn : n ≤ c) (hc : c ≤ maxLen) (hs : n * sz ≤ cs.size) : Rd t sz w (some ⟨g, 0, none⟩) n c (cs.toList.take (n * sz)) := by
  refine ⟨by simp; omega, hn, hc, .inr ⟨g, 0, cs, (0, 0), rfl, h, fun j u hu => ?_⟩⟩
  have hj : j < n * sz := by
    have := (List.getElem?_eq_some_iff.1 hu).1
    rw [List.length_take] at this; omega
  rw [List.getElem?_take_of_lt hj] at hu
  simpa using hu
theorem Rd.of_own {base : Nat} (h : w.ownsRow base t sz (.slice A n c) n xs) : Rd t sz w A n c xs := by
  rcases h.2 with ⟨he, h0⟩ | ⟨g, cap, cur, hv, hb, hg, hnc, hcm, hcs, htk⟩
  · injection he with e1 e2 e3; subst e3; subst e1; subst h0
    exact ⟨h.1, Nat.zero_le _, by simp [maxLen], .inl rfl⟩
  · injection hv with e1 _ e3
    subst e3
    refine ⟨h.1, hnc, hcm, .inr ⟨g, 0, cur, (0, 0), e1, hg, fun j u hu => ?_⟩⟩
    have hj : j < n * sz := by
      have := (List.getElem?_eq_some_iff.1 hu).1
      have := h.1; omega
    rw [← htk, List.getElem?_take_of_lt (by omega)] at hu
    simpa using hu
/-- append(own, x...) -/
theorem run_append_rd {base : Nat} {ts ty : TypeId} {i : TypeInfo} {z : Value} {by_ : Nat} (ht : P.underlying ts = some (.slice t)) (hi : P.info? t = some i) (hz : i.zero = some z) (hsz : i.size = sz) (hby : i.bytes = by_) (hzs : z.cells.size = sz) (hpos : 0 < sz)
    {v : Value} {k : Nat} {ys : List Value} (hown : w.ownsRow base t sz v k ys) (h : Rd t sz w A n c xs) (h1 : ∀ u ∈ xs, u.oneCell' = true) (hm : k + n ≤ maxLen) (hbytes : (k + n) * by_ ≤ 140737488355328) (hbase : base ≤ w.heap.size) :
    ∃ v' w', (Builtin.append_ #[ts, ts] ty #[v, .slice A n c]).run P w = .ok v' w' ∧ w'.ownsRow base t sz v' (k + n) (ys ++ xs) ∧ w.grownBy w' v.ownBlock ∧ (v'.ownBlock = v.ownBlock ∨ v'.ownBlock = some w.heap.size) := by
  have hl := h.len
  cases A with
  | none =>
    have h0 : n = 0 := by
      rcases h.row with h0 | ⟨g, o, cs, fr, hA, _⟩
      · exact h0
      · cases hA
    subst h0
    have : xs = [] := List.eq_nil_of_length_eq_zero (by omega)
    subst this
    refine ⟨v, w, ?_, by simpa using hown, World.grownBy.refl w _, .inl rfl⟩
    rcases hown.2 with ⟨rfl, rfl⟩ | ⟨g, cap, cur, rfl, _, _, hnc, _⟩
    · simp [Builtin.append_, run_underlying ht, sizeOf, typeInfo, hi, Builtin.lenOf, Builtin.firstCells]
    · simp [Builtin.append_, run_underlying ht, sizeOf, typeInfo, hi, Builtin.lenOf, Builtin.firstCells, hnc, storeCells]
  | some ad =>
    obtain ⟨v', w', hrun, h2, h3, _, h5⟩ := run_append_own_at (P := P) w base ts ty t i z sz by_ ht hi hz hsz hby hzs hpos v k ys hown ad n c xs hl (h.news rfl) h1 hm hbytes hbase
    exact ⟨v', w', hrun, h2, h3, h5⟩
end
section
variable {P : Program} {t : TypeId} {sz : Nat} {w : World} {A : Option Addr} {n c : Nat} {xs : List Value} {ops : Array Oper} {rest : List Oper} {o : Oper} {a : Act} {Q : Exit → Act → World → Prop}
/-- 'append(x, y...)' onto elements of one's own. -/
theorem wpList_append_rd (hg : o.guard = none) (s x : Operand) (ts : TypeId) (hop : o.op = .call { callee := .builtin .append, args := #[s, x], argTypes := #[ts, ts] })
    {i : TypeInfo} {z : Value} {by_ : Nat} (ht : P.underlying ts = some (.slice t)) (hi : P.info? t = some i) (hz : i.zero = some z) (hsz : i.size = sz) (hby : i.bytes = by_) (hzs : z.cells.size = sz) (hpos : 0 < sz)
    (base : Nat) (v : Value) (hv : a.eval s = v) {k : Nat} {ys : List Value} (hown : w.ownsRow base t sz v k ys) (hx : a.eval x = .slice A n c) (h : Rd t sz w A n c xs) (h1 : ∀ u ∈ xs, u.oneCell' = true) (hm : k + n ≤ maxLen) (hbytes : (k + n) * by_ ≤ 140737488355328) (hbase : base ≤ w.heap.size)
    (next : ∀ v' w', w'.ownsRow base t sz v' (k + n) (ys ++ xs) → w.grownBy w' v.ownBlock → (v'.ownBlock = v.ownBlock ∨ v'.ownBlock = some w.heap.size) → wpList P ops Q rest (a.put o.dst v') w') : wpList P ops Q (o :: rest) a w := by
  obtain ⟨v', w', hrun, h1, h2, h3⟩ := run_append_rd (ty := o.type) ht hi hz hsz hby hzs hpos hown h h1 hm hbytes hbase
  refine wpList_value hg (w' := w') (v := v') ?_ (next v' w' h1 h2 h3)
  simp [execOp, hop, resolve, invoke, builtin, hv, hx, hrun, Result.andThen]
/-- What one owns from a base on, as a slice; its block is new. -/
theorem own_form {base : Nat} {v : Value} {k : Nat} {ys : List Value} (h : w.ownsRow base t sz v k ys) : ∃ A c, v = .slice A k c ∧ ∀ g, v.ownBlock = some g → base ≤ g := by
  rcases h.2 with ⟨rfl, rfl⟩ | ⟨g, cap, cur, rfl, hb, _⟩
  · exact ⟨none, 0, rfl, fun g e => by simp [Value.ownBlock] at e⟩
  · exact ⟨_, _, rfl, fun g' e => by simp [Value.ownBlock] at e; omega⟩
/-- The first ones of what one owns. -/
theorem own_zero {base : Nat} {A : Option Addr} {k c : Nat} {ys : List Value} (h : w.ownsRow base t sz (.slice A k c) k ys) : w.ownsRow base t sz (.slice A 0 c) 0 [] := by
  refine ⟨by simp, ?_⟩
  rcases h.2 with ⟨he, h0⟩ | ⟨g, cap, cur, hv, hb, hg, hnc, hcm, hcs, htk⟩
  · injection he with e1 e2 e3; subst e1; subst e3; exact .inl ⟨rfl, rfl⟩
  · injection hv with e1 e2 e3; subst e1; subst e3
    exact .inr ⟨g, c, cur, rfl, hb, hg, Nat.zero_le _, hcm, hcs, by simp⟩
end
/-- A part of what is put together. -/
structure Part where
  A : Option Addr
  n : Nat
  c : Nat
  xs : List Value
def partVal (p : Part) : Value := .slice p.A p.n p.c
def total (ps : List Part) : Nat := (ps.map (·.n)).sum
def allXs (ps : List Part) : List Value := ps.flatMap (·.xs)
theorem total_snoc (ps : List Part) (p : Part) : total (ps ++ [p]) = total ps + p.n := by simp [total]
theorem allXs_snoc (ps : List Part) (p : Part) : allXs (ps ++ [p]) = allXs ps ++ p.xs := by simp [allXs]
theorem take_snoc' {α : Type} {l : List α} {k : Nat} {x : α} (h : l[k]? = some x) : l.take (k + 1) = l.take k ++ [x] := by
  obtain ⟨hlt, he⟩ := List.getElem?_eq_some_iff.1 h
  rw [List.take_succ_eq_append_getElem hlt, he]
theorem total_take_le (ps : List Part) (k : Nat) : total (ps.take k) ≤ total ps := by
  have : total ps = total (ps.take k) + total (ps.drop k) := by
    unfold total; rw [← List.sum_append, ← List.map_append, List.take_append_drop]
  omega
end Go.Proofs.Ytliakkpmmmgmhaa
