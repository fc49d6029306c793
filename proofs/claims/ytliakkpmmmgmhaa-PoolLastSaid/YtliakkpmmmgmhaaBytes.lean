/- Slices that read as bytes: cut, made into strings, appended, copied, made. No program in it. -/
import Derived.Test.YtliakkpmmmgmhaaMaps
import Derived.Maps.AppendAt
import Derived.Deep.AppendLies
import Derived.OwnWalk
import Derived.Lib.AppendStr
import Derived.Lib.ConvBytes
import Derived.Laws.IdiomStrings
import Derived.Laws.Slices
import Derived.Deep.MidRow
import Derived.Laws.CopyOwn
namespace Go.Proofs.Ytliakkpmmmgmhaa
open Go.RowKit

def u8s (l : List UInt8) : List Value := l.map (fun c => Value.int .u8 (c.toNat : Int))
theorem u8s_length (l : List UInt8) : (u8s l).length = l.length := by simp [u8s]
theorem u8s_append (l k : List UInt8) : u8s (l ++ k) = u8s l ++ u8s k := by simp [u8s]
theorem u8s_oneCell (l : List UInt8) : ∀ u ∈ u8s l, u.oneCell' = true := by
  intro u hu
  obtain ⟨c, _, rfl⟩ := List.mem_map.1 hu
  rfl
theorem u8s_at {l : List UInt8} {i : Nat} (h : i < l.length) : (u8s l)[i]? = some (.int .u8 (l[i].toNat : Int)) := by simp [u8s, h]
theorem u8s_strCells (s : ByteArray) : Lib.strCells s = u8s s.data.toList := by simp [Lib.strCells, u8s]

/-- The slice (A, n, c) of bytes (type t) reads as l. -/
structure Bs (t : TypeId) (w : World) (A : Option Addr) (n c : Nat) (l : List UInt8) : Prop where
  len : l.length = n
  cap : n ≤ c
  most : c ≤ maxLen
  row : n = 0 ∨ ∃ g o cs fr, A = some ⟨g, o, none⟩ ∧ w.heap[g]? = some (.cells cs t fr) ∧ ∀ j u, (u8s l)[j]? = some u → cs[o + j]? = some u

/-- Block k holds no bytes (or is not there). -/
def Not8 (t : TypeId) (w : World) (k : Nat) : Prop := ∀ cs fr, w.heap[k]? ≠ some (.cells cs t fr)
theorem Blk.not8 {w : World} {k : Nat} {t t' : TypeId} {cs : Array Value} (h : Blk w k t' cs) (hne : t' ≠ t) : Not8 t w k := by
  intro cs' fr e
  unfold Blk at h
  rw [h] at e
  injection e with e; injection e with _ e2; exact hne e2
theorem IMap.not8 {w : World} {k : Nat} {t : TypeId} {m : List (Int × Value)} (h : IMap w k m) : Not8 t w k := by
  intro cs' fr e
  obtain ⟨es, clock, h1, _⟩ := h.ex
  rw [h1] at e; cases e

section
variable {P : Program} {t : TypeId} {w w' : World} {A : Option Addr} {n c : Nat} {l : List UInt8}
theorem Bs.nil (t : TypeId) (w : World) : Bs t w none 0 0 [] := ⟨rfl, Nat.le_refl _, by simp [maxLen], .inl rfl⟩
theorem Bs.empty (t : TypeId) (w : World) (A : Option Addr) {c : Nat} (hc : c ≤ maxLen) : Bs t w A 0 c [] := ⟨rfl, Nat.zero_le _, hc, .inl rfl⟩
theorem Bs.at_ (h : Bs t w A n c l) {i : Nat} (hi : i < n) : ∃ (g o : Nat) (b : UInt8), A = some ⟨g, o, none⟩ ∧ l[i]? = some b ∧ w.cell? ⟨g, o + i, none⟩ = some (.int .u8 (b.toNat : Int)) := by
  have hl := h.len
  rcases h.row with h0 | ⟨g, o, cs, fr, hA, hg, hr⟩
  · omega
  · have hil : i < l.length := by omega
    refine ⟨g, o, l[i], hA, List.getElem?_eq_getElem hil, ?_⟩
    rw [cell_of_row w g (o + i) cs t fr hg]
    exact hr i _ (u8s_at hil)
theorem Bs.news (h : Bs t w A n c l) {ad : Addr} (hA : A = some ad) : ∀ j u, (u8s l)[j]? = some u → w.cell? (ad.add j) = some u := by
  intro j u hu
  have hl := h.len
  have hj : j < l.length := by
    have := (List.getElem?_eq_some_iff.1 hu).1
    rwa [u8s_length] at this
  rcases h.row with h0 | ⟨g, o, cs, fr, hA', hg, hr⟩
  · omega
  · rw [hA] at hA'; injection hA' with hA'; subst hA'
    rw [Addr.add_mid, cell_of_row w g (o + j) cs t fr hg]
    exact hr j u hu
theorem Bs.of_blocks (h : Bs t w A n c l) (hb : ∀ g o, A = some ⟨g, o, none⟩ → w'.heap[g]? = w.heap[g]?) : Bs t w' A n c l := by
  refine ⟨h.len, h.cap, h.most, ?_⟩
  rcases h.row with h0 | ⟨g, o, cs, fr, hA, hg, hr⟩
  · exact .inl h0
  · exact .inr ⟨g, o, cs, fr, hA, (hb g o hA).trans hg, hr⟩
theorem Bs.turned {S : Nat → Prop} (h : Bs t w A n c l) (k : Turned S w w') (hS : ∀ k, S k → Not8 t w k) : Bs t w' A n c l := by
  refine ⟨h.len, h.cap, h.most, ?_⟩
  rcases h.row with h0 | ⟨g, o, cs, fr, hA, hg, hr⟩
  · exact .inl h0
  · have hlt := (Array.getElem?_eq_some_iff.1 hg).1
    exact .inr ⟨g, o, cs, fr, hA, (k.block g hlt (fun hs => hS g hs cs fr hg)).trans hg, hr⟩
theorem Bs.turned' {S : Nat → Prop} (h : Bs t w A n c l) (k : Turned S w w') (hS : ∀ g o, A = some ⟨g, o, none⟩ → ¬ S g) : Bs t w' A n c l := by
  refine ⟨h.len, h.cap, h.most, ?_⟩
  rcases h.row with h0 | ⟨g, o, cs, fr, hA, hg, hr⟩
  · exact .inl h0
  · have hlt := (Array.getElem?_eq_some_iff.1 hg).1
    exact .inr ⟨g, o, cs, fr, hA, (k.block g hlt (hS g o hA)).trans hg, hr⟩
theorem Bs.below (h : Bs t w A n c l) (k : Below w.heap.size w w') : Bs t w' A n c l := h.turned (S := fun _ => False) (Turned.of_below k) (fun _ h => h.elim)
theorem Bs.drew (h : Bs t w A n c l) : Bs t w.drew A n c l := ⟨h.len, h.cap, h.most, h.row⟩
theorem Bs.drewN (h : Bs t w A n c l) (k : Nat) : Bs t (w.drewN k) A n c l := ⟨h.len, h.cap, h.most, h.row⟩
theorem Bs.alloc (h : Bs t w A n c l) (o : Obj) : Bs t (w.alloc o) A n c l := h.turned (S := fun _ => False) ((Turned.refl _ _).alloc o) (fun _ h => h.elim)
theorem Bs.grown {row : Option Nat} (h : Bs t w A n c l) (k : w.grownBy w' row) (hr : ∀ g, row = some g → Not8 t w g) : Bs t w' A n c l :=
  h.turned (S := fun k => row = some k) (Turned.of_grown k (fun _ e _ => e)) (fun g e => hr g e)
/-- Where its bytes lie, if it has any. -/
theorem Bs.lt (h : Bs t w A n c l) (hn : 0 < n) : ∃ g o, A = some ⟨g, o, none⟩ ∧ g < w.heap.size := by
  rcases h.row with h0 | ⟨g, o, cs, fr, hA, hg, hr⟩
  · omega
  · exact ⟨g, o, hA, (Array.getElem?_eq_some_iff.1 hg).1⟩
theorem Bs.of_own {base : Nat} (h : w.ownsRow base t 1 (.slice A n c) n (u8s l)) : Bs t w A n c l := by
  have hlen : l.length = n := by have := h.1; rw [u8s_length] at this; omega
  rcases h.2 with ⟨he, h0⟩ | ⟨g, cap, cur, hv, hb, hg, hnc, hcm, hcs, htk⟩
  · injection he with e1 e2 e3; subst e3; subst e1; subst h0
    exact ⟨hlen, Nat.zero_le _, by simp [maxLen], .inl rfl⟩
  · injection hv with e1 _ e3
    subst e3
    refine ⟨hlen, hnc, hcm, .inr ⟨g, 0, cur, (0, 0), e1, hg, fun j u hu => ?_⟩⟩
    have hj : j < n := by
      have := (List.getElem?_eq_some_iff.1 hu).1
      rw [u8s_length] at this; omega
    rw [← htk, List.getElem?_take_of_lt (by omega)] at hu
    simpa using hu
/-- A cut: as the walk spells it. -/
theorem Bs.cut (h : Bs t w A n c l) {lo hi : Nat} (h1 : lo ≤ hi) (h2 : hi ≤ n) :
    Bs t w (if c = lo then A else A.map (·.add (lo * 1))) (hi - lo) (c - lo) ((l.drop lo).take (hi - lo)) := by
  have hl := h.len
  have hc := h.cap
  have hm := h.most
  refine ⟨by rw [List.length_take, List.length_drop]; omega, by omega, by omega, ?_⟩
  rcases Nat.eq_or_lt_of_le h1 with e | hlt
  · left; omega
  · right
    rcases h.row with h0 | ⟨g, o, cs, fr, hA, hg, hr⟩
    · omega
    · rw [if_neg (by omega)]
      refine ⟨g, o + lo, cs, fr, by rw [hA, Option.map_some, Addr.add_mid, Nat.mul_one], hg, fun j u hu => ?_⟩
      have hu' : (u8s l)[lo + j]? = some u := by
        have hj : j < hi - lo := by
          have := (List.getElem?_eq_some_iff.1 hu).1
          rw [u8s_length, List.length_take] at this; omega
        rw [← hu]
        simp only [u8s, List.getElem?_map, List.getElem?_take_of_lt hj, List.getElem?_drop]
      have := hr _ u hu'
      rwa [← Nat.add_assoc] at this
/-- string(b) -/
theorem Bs.toString (h : Bs t w A n c l) {src dst te : TypeId} (hs : P.underlying src = some (.slice te)) (he : P.underlying te = some (.int .u8)) (hd : P.underlying dst = some .string) :
    (convert src dst (.slice A n c)).run P w = .ok (.string ⟨l.toArray⟩) w := by
  have hl := h.len
  cases A with
  | none =>
    have h0 : n = 0 := by
      rcases h.row with h0 | ⟨g, o, cs, fr, hA, _⟩
      · exact h0
      · cases hA
    subst h0
    have : l = [] := List.eq_nil_of_length_eq_zero hl
    subst this
    rw [run_convert_bytes_string w src dst te none 0 c hs he hd]
    rfl
  | some ad =>
    subst hl
    refine run_convert_bytes_back w src dst te ad c l hs he hd ?_
    intro j hj
    exact h.news rfl j _ (u8s_at hj)
/-- append(own, b...) -/
theorem run_append_bs {base : Nat} {ts ty tb : TypeId} {i : TypeInfo} (ht : P.underlying ts = some (.slice t)) (hi : P.info? t = some i) (hz : i.zero = some (.int .u8 0)) (hsz : i.size = 1) (hby : i.bytes = 1)
    {v : Value} {k : Nat} {xs : List Value} (hown : w.ownsRow base t 1 v k xs) (h : Bs tb w A n c l) (hm : k + n ≤ 140737488351232) (hbase : base ≤ w.heap.size) :
    ∃ v' w', (Builtin.append_ #[ts, ts] ty #[v, .slice A n c]).run P w = .ok v' w' ∧ w'.ownsRow base t 1 v' (k + n) (xs ++ u8s l) ∧ w.grownBy w' v.ownBlock ∧ (v'.ownBlock = v.ownBlock ∨ v'.ownBlock = some w.heap.size) := by
  have hl := h.len
  cases A with
  | none =>
    have h0 : n = 0 := by
      rcases h.row with h0 | ⟨g, o, cs, fr, hA, _⟩
      · exact h0
      · cases hA
    subst h0
    have : l = [] := List.eq_nil_of_length_eq_zero hl
    subst this
    refine ⟨v, w, ?_, by simpa [u8s] using hown, World.grownBy.refl w _, .inl rfl⟩
    rcases hown.2 with ⟨rfl, rfl⟩ | ⟨g, cap, cur, rfl, _, _, hnc, _⟩
    · simp [Builtin.append_, run_underlying ht, sizeOf, typeInfo, hi, Builtin.lenOf, Builtin.firstCells]
    · simp [Builtin.append_, run_underlying ht, sizeOf, typeInfo, hi, Builtin.lenOf, Builtin.firstCells, hnc, storeCells]
  | some ad =>
    obtain ⟨v', w', hrun, h2, h3, _, h5⟩ := run_append_own_at (P := P) w base ts ty t i (.int .u8 0) 1 1 ht hi hz hsz hby rfl (by omega) v k xs hown ad n c (u8s l) (by rw [u8s_length]; omega) (h.news rfl) (u8s_oneCell l) (by simp only [maxLen]; omega) (by omega) hbase
    exact ⟨v', w', hrun, h2, h3, h5⟩
end

section
variable {P : Program} {t : TypeId} {w : World} {A : Option Addr} {n c : Nat} {l : List UInt8} {ops : Array Oper} {rest : List Oper} {o : Oper} {a : Act} {Q : Exit → Act → World → Prop}
/-- 'append(x, y...)' of bytes onto bytes of one's own. -/
theorem wpList_append_bs {tb : TypeId} (hg : o.guard = none) (s x : Operand) (ts : TypeId) (hop : o.op = .call { callee := .builtin .append, args := #[s, x], argTypes := #[ts, ts] })
    {i : TypeInfo} (ht : P.underlying ts = some (.slice t)) (hi : P.info? t = some i) (hz : i.zero = some (.int .u8 0)) (hsz : i.size = 1) (hby : i.bytes = 1)
    (base : Nat) (v : Value) (hv : a.eval s = v) {k : Nat} {xs : List Value} (hown : w.ownsRow base t 1 v k xs) (hx : a.eval x = .slice A n c) (h : Bs tb w A n c l) (hm : k + n ≤ 140737488351232) (hbase : base ≤ w.heap.size)
    (next : ∀ v' w', w'.ownsRow base t 1 v' (k + n) (xs ++ u8s l) → w.grownBy w' v.ownBlock → (v'.ownBlock = v.ownBlock ∨ v'.ownBlock = some w.heap.size) → wpList P ops Q rest (a.put o.dst v') w') : wpList P ops Q (o :: rest) a w := by
  obtain ⟨v', w', hrun, h1, h2, h3⟩ := run_append_bs (ty := o.type) ht hi hz hsz hby hown h hm hbase
  refine wpList_value hg (w' := w') (v := v') ?_ (next v' w' h1 h2 h3)
  simp [execOp, hop, resolve, invoke, builtin, hv, hx, hrun, Result.andThen]
end
end Go.Proofs.Ytliakkpmmmgmhaa
