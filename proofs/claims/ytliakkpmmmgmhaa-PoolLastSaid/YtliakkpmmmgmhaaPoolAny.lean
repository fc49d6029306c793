/- A pool whose frames hold what was put last. -/
import Derived.Test.YtliakkpmmmgmhaaPoolTurn
namespace Go.Proofs.Ytliakkpmmmgmhaa
open Go.RowKit

theorem get_any (G : PoolG) (m : Nat) (w : World) (h : PoolRep w G) :
    Calls Try.prog 11 #[.pointer (some ⟨G.p, 0, none⟩), .int .i64 (m : Int)] w fun e w' =>
      ∃ G' : PoolG, PoolRep w' G' ∧ SameOwn G G' ∧ (∀ f ∈ G'.L, ∃ g ∈ G.L, f.page = g.page ∧ f.l = g.l) ∧ Turned G.own w w' ∧
        ((∃ A n c f, e = .returned (.tuple #[.slice A n c, .bool true]) ∧ f ∈ G.L ∧ f.page = (m : Int) ∧ Bs 5 w' A n c f.l) ∨ (e = .returned (.tuple #[.slice none 0 0, .bool false]) ∧ ∀ f ∈ G.L, f.page ≠ (m : Int))) := by
  cases hmg : mget G.m (m : Int) with
  | none =>
    refine (get_miss G m w h hmg).mono ?_
    rintro e w' ⟨rfl, hP, hT⟩
    refine ⟨_, hP, ⟨rfl, rfl, rfl⟩, fun f hf => ⟨f, hf, rfl, rfl⟩, hT, .inr ⟨rfl, ?_⟩⟩
    intro f hf e
    obtain ⟨i, hi⟩ := List.getElem?_of_mem hf
    rw [h.get_yes hi e (by omega)] at hmg; cases hmg
  | some v =>
    obtain ⟨i, f, hf, hp, _, rfl⟩ := (h.idx _ v).1 hmg
    refine (get_hit G m i f w h hmg hf).mono ?_
    rintro e w' ⟨v, rfl, ⟨A, n, c, rfl, hb, _⟩, hP, hT⟩
    refine ⟨_, hP, ⟨rfl, rfl, rfl⟩, ?_, hT, .inl ⟨A, n, c, f, rfl, List.mem_of_getElem? hf, hp, hb⟩⟩
    intro g hg
    simp only [PoolG.hit, PoolG.remark] at hg
    rcases mem_set hg with rfl | hg
    · exact ⟨f, List.mem_of_getElem? hf, rfl, rfl⟩
    · exact ⟨g, hg, rfl, rfl⟩
theorem sweep_bytes {L L' : List Frm} {h a h' : Nat} (s : Sweep L h a L' h') : ∀ f ∈ L', ∃ g ∈ L, f.page = g.page ∧ f.l = g.l := by
  induction s with
  | stop _ _ => exact fun f hf => ⟨f, hf, rfl, rfl⟩
  | go hf _ _ ih =>
    intro g hg
    obtain ⟨x, hx, e1, e2⟩ := ih g hg
    rcases mem_set hx with rfl | hx
    · exact ⟨_, List.mem_of_getElem? hf, e1, e2⟩
    · exact ⟨x, hx, e1, e2⟩
theorem put_any {tb : TypeId} (G : PoolG) (m : Nat) (hm : m < 1000) (A : Option Addr) (k c : Nat) (l : List UInt8) (w : World) (h : PoolRep w G) (hb : ∀ w', Turned G.own w w' → Bs tb w' A k c l) (hk : k ≤ 1000) :
    Calls Try.prog 10 #[.pointer (some ⟨G.p, 0, none⟩), .int .i64 (m : Int), .slice A k c] w fun e w' =>
      ∃ (gone : Int) (G' : PoolG), e = .returned (.int .i64 gone) ∧ PoolRep w' G' ∧ SameOwn G G' ∧ Turned G.own w w' ∧
        (∀ f ∈ G'.L, (f.page = (m : Int) → f.l = l) ∧ (f.page ≠ (m : Int) → ∃ g ∈ G.L, f.page = g.page ∧ f.l = g.l)) ∧ ∃ f ∈ G'.L, f.page = (m : Int) := by
  refine (put_g G m A k c l w h (by omega) (by omega) hb hk).mono ?_
  rintro e w' ⟨a, gone, L, C, h', f, mm, A', k', c', rfl, hat, hP, hT, _⟩
  have hfa : L[a]? = some f := hat.1
  have hlt := (List.getElem?_eq_some_iff.1 hfa).1
  have hsame : ∀ f ∈ L, ∃ g ∈ G.L, f.page = g.page ∧ f.l = g.l := by
    obtain ⟨_, ⟨_, _, h3, _⟩ | ⟨_, _, ⟨_, h3, _⟩ | ⟨_, h3⟩, _⟩⟩ := hat
    · rw [h3]; exact fun f hf => ⟨f, hf, rfl, rfl⟩
    · rw [h3]; exact fun f hf => ⟨f, hf, rfl, rfl⟩
    · exact sweep_bytes h3
  have hnew : ((G.swept L C h').frame a { page := (m : Int), mark := true, A := A', n := k', c := c', l := l } mm).L[a]? = some { page := (m : Int), mark := true, A := A', n := k', c := c', l := l } := by
    show (L.set a _)[a]? = _
    rw [List.getElem?_set]; simp [hlt]
  refine ⟨gone, _, rfl, hP, ⟨rfl, rfl, rfl⟩, hT, fun g hg => ⟨?_, ?_⟩, ⟨_, List.mem_of_getElem? hnew, rfl⟩⟩
  · intro e
    obtain ⟨i, hi⟩ := List.getElem?_of_mem hg
    have := hP.uniq i a g _ hi hnew (by rw [e]) (by omega)
    subst this
    rw [hnew] at hi
    injection hi with hi
    rw [← hi]
  · intro e
    have hg' : g ∈ L.set a { page := (m : Int), mark := true, A := A', n := k', c := c', l := l } := hg
    rcases mem_set hg' with rfl | hg
    · exact absurd rfl e
    · exact hsame g hg
theorem drop_any (G : PoolG) (m : Nat) (w : World) (h : PoolRep w G) :
    Calls Try.prog 14 #[.pointer (some ⟨G.p, 0, none⟩), .int .i64 (m : Int)] w fun e w' =>
      ∃ (b : Bool) (G' : PoolG), e = .returned (.bool b) ∧ PoolRep w' G' ∧ SameOwn G G' ∧ Turned G.own w w' ∧ ∀ f ∈ G'.L, f.page ≠ (m : Int) ∧ (0 ≤ f.page → ∃ g ∈ G.L, f.page = g.page ∧ f.l = g.l) := by
  cases hmg : mget G.m (m : Int) with
  | none =>
    refine (drop_miss G m w h hmg).mono ?_
    rintro e w' ⟨rfl, rfl⟩
    refine ⟨false, G, rfl, h, ⟨rfl, rfl, rfl⟩, Turned.refl _ _, fun f hf => ⟨?_, fun _ => ⟨f, hf, rfl, rfl⟩⟩⟩
    intro e
    obtain ⟨i, hi⟩ := List.getElem?_of_mem hf
    rw [h.get_yes hi e (by omega)] at hmg; cases hmg
  | some v =>
    obtain ⟨i, f, hf, hp, _, rfl⟩ := (h.idx _ v).1 hmg
    refine (drop_hit G m i f w h hmg hf hp (by omega)).mono ?_
    rintro e w' ⟨rfl, hP, hT⟩
    refine ⟨true, _, rfl, hP, ⟨rfl, rfl, rfl⟩, hT, ?_⟩
    intro g hg
    obtain ⟨j, hj⟩ := List.getElem?_of_mem hg
    have hj' : (G.L.set i noFrm)[j]? = some g := hj
    by_cases e : i = j
    · subst e
      rw [List.getElem?_set] at hj'
      simp at hj'
      obtain ⟨_, rfl⟩ := hj'
      exact ⟨by show (-1 : Int) ≠ m; omega, fun h => absurd h (by decide)⟩
    · rw [List.getElem?_set_ne e] at hj'
      refine ⟨fun e2 => e ?_, fun _ => ⟨g, List.mem_of_getElem? hj', rfl, rfl⟩⟩
      exact h.uniq i j f g hf hj' (by rw [hp, e2]) (by omega)

/-- The pool, what was put last, and whether it was put and not dropped since. -/
structure LSt (w0 : World) (p lb hb : Nat) (la : Nat → List UInt8) (ha : Nat → Bool) (w : World) (G : PoolG) : Prop where
  rep : PoolRep w G
  at_ : G.p = p
  own1 : w0.heap.size ≤ G.p
  own2 : w0.heap.size ≤ G.fb
  own3 : w0.heap.size ≤ G.mb
  own4 : w0.heap.size ≤ lb
  own5 : w0.heap.size ≤ hb
  below : Below w0.heap.size w0 w
  last : ∃ C, Blk w lb 38 C ∧ C.size = 16 ∧ ∀ i : Nat, i < 16 → C[i]? = some (.string ⟨(la i).toArray⟩)
  has : ∃ C, Blk w hb 39 C ∧ C.size = 16 ∧ ∀ i : Nat, i < 16 → C[i]? = some (.int .i64 (if ha i then 1 else 0))
/-- A frame's bytes are what was put last for its page. -/
def OkL (G : PoolG) (la : Nat → List UInt8) (ha : Nat → Bool) : Prop := ∀ f ∈ G.L, ∀ m : Nat, m < 16 → f.page = (m : Int) → ha m = true ∧ la m = f.l

theorem LSt.not_own {w0 w : World} {p lb hb : Nat} {la : Nat → List UInt8} {ha : Nat → Bool} {G : PoolG} (h : LSt w0 p lb hb la ha w G) : ¬ G.own lb ∧ ¬ G.own hb ∧ lb ≠ hb := by
  obtain ⟨C, hC, _⟩ := h.last
  obtain ⟨D, hD, _⟩ := h.has
  refine ⟨?_, ?_, hC.ne_ hD (by decide)⟩
  · rintro (e | e | e)
    · exact h.rep.bp.ne_ hC (by decide) e.symm
    · exact h.rep.bf.ne_ hC (by decide) e.symm
    · exact h.rep.bm.ne_blk hC e.symm
  · rintro (e | e | e)
    · exact h.rep.bp.ne_ hD (by decide) e.symm
    · exact h.rep.bf.ne_ hD (by decide) e.symm
    · exact h.rep.bm.ne_blk hD e.symm
section
variable {w0 w w' : World} {p lb hb : Nat} {la : Nat → List UInt8} {ha : Nat → Bool} {G G' : PoolG}
/-- What a call turned; the frames as they are then. -/
theorem LSt.turn (h : LSt w0 p lb hb la ha w G) (hP : PoolRep w' G') (hS : SameOwn G G') (hT : Turned G.own w w') : LSt w0 p lb hb la ha w' G' := by
  obtain ⟨n1, n2, _⟩ := h.not_own
  obtain ⟨C, hC, hC2⟩ := h.last
  obtain ⟨D, hD, hD2⟩ := h.has
  obtain ⟨e1, e2, e3⟩ := hS
  exact ⟨hP, e1.trans h.at_, by rw [e1]; exact h.own1, by rw [e2]; exact h.own2, by rw [e3]; exact h.own3, h.own4, h.own5, own_new h.below h.own1 h.own2 h.own3 hT, ⟨C, hC.turned hT n1, hC2⟩, ⟨D, hD.turned hT n2, hD2⟩⟩
theorem LSt.drewN (h : LSt w0 p lb hb la ha w G) (n : Nat) : LSt w0 p lb hb la ha (w.drewN n) G := h.turn (G' := G) (h.rep.drewN n) ⟨rfl, rfl, rfl⟩ ((Turned.refl _ _).drewN n)
theorem LSt.set_has (h : LSt w0 p lb hb la ha w G) (m : Nat) (b : Bool) :
    LSt w0 p lb hb la (fun k => if k = m then b else ha k) (w.setCell ⟨hb, m, none⟩ (.int .i64 (if b then 1 else 0))) G := by
  obtain ⟨n1, n2, n3⟩ := h.not_own
  obtain ⟨C, hC, hC2⟩ := h.last
  obtain ⟨D, hD, hD2, hD3⟩ := h.has
  have hT : Turned (fun k => k = hb) w (w.setCell ⟨hb, m, none⟩ (.int .i64 (if b then 1 else 0))) := Turned.setCell (S := fun k => k = hb) (Turned.refl _ w) (p := ⟨hb, m, none⟩) (fun _ => rfl) _
  refine ⟨h.rep.turned hT (fun e => n2 (Or.inl e.symm)) (fun e => n2 (Or.inr (Or.inl e.symm))) (fun e => n2 (Or.inr (Or.inr e.symm))) (fun k e => by subst e; exact hD.not8 (by decide)), h.at_, h.own1, h.own2, h.own3, h.own4, h.own5, h.below.setCell (p := ⟨hb, m, none⟩) h.own5 _, ⟨C, hC.far (p := ⟨hb, m, none⟩) n3 _, hC2⟩, ⟨_, hD.set_ m _, by simpa using hD2, ?_⟩⟩
  intro i hi
  rw [Array.getElem?_setIfInBounds]
  by_cases e : m = i
  · subst e; simp [hD2, hi]
  · have h2 : i ≠ m := fun x => e x.symm
    rw [if_neg e, hD3 i hi]
    simp [h2]
theorem LSt.set_last (h : LSt w0 p lb hb la ha w G) (m : Nat) (l : List UInt8) :
    LSt w0 p lb hb (fun k => if k = m then l else la k) ha (w.setCell ⟨lb, m, none⟩ (.string ⟨l.toArray⟩)) G := by
  obtain ⟨n1, n2, n3⟩ := h.not_own
  obtain ⟨C, hC, hC2, hC3⟩ := h.last
  obtain ⟨D, hD, hD2⟩ := h.has
  have hT : Turned (fun k => k = lb) w (w.setCell ⟨lb, m, none⟩ (.string ⟨l.toArray⟩)) := Turned.setCell (S := fun k => k = lb) (Turned.refl _ w) (p := ⟨lb, m, none⟩) (fun _ => rfl) _
  refine ⟨h.rep.turned hT (fun e => n1 (Or.inl e.symm)) (fun e => n1 (Or.inr (Or.inl e.symm))) (fun e => n1 (Or.inr (Or.inr e.symm))) (fun k e => by subst e; exact hC.not8 (by decide)), h.at_, h.own1, h.own2, h.own3, h.own4, h.own5, h.below.setCell (p := ⟨lb, m, none⟩) h.own4 _, ⟨_, hC.set_ m _, by simpa using hC2, ?_⟩, ⟨D, hD.far (p := ⟨lb, m, none⟩) n3.symm _, hD2⟩⟩
  intro i hi
  rw [Array.getElem?_setIfInBounds]
  by_cases e : m = i
  · subst e; simp [hC2, hi]
  · have h2 : i ≠ m := fun x => e x.symm
    rw [if_neg e, hC3 i hi]
    simp [h2]
end
end Go.Proofs.Ytliakkpmmmgmhaa
