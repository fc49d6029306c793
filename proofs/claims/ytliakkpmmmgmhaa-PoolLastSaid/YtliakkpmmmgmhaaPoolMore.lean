/- More of what Put and Pages leave; whole numbers cut by %. -/
import Derived.Test.YtliakkpmmmgmhaaArgs
namespace Go.Proofs.Ytliakkpmmmgmhaa
open Go.RowKit

theorem u64_ge (a : Int) : 0 ≤ IntKind.u64.wrap a := by
  simp only [IntKind.wrap, IntKind.signed, IntKind.bits]
  simp
  omega
theorem mod_u64 (a : Int) (q : Nat) (h0 : 0 < q) (h1 : q ≤ 1000) : ∃ k : Nat, wrap64 ((IntKind.u64.wrap a).tmod (q : Int)) = k ∧ k < q := by
  have h := u64_ge a
  have h2 : (IntKind.u64.wrap a).tmod (q : Int) = (IntKind.u64.wrap a) % (q : Int) := Int.tmod_eq_emod_of_nonneg h
  have h3 := Int.emod_nonneg (IntKind.u64.wrap a) (b := (q : Int)) (by omega)
  have h4 := Int.emod_lt_of_pos (IntKind.u64.wrap a) (b := (q : Int)) (by omega)
  refine ⟨((IntKind.u64.wrap a) % (q : Int)).toNat, ?_, by omega⟩
  rw [h2]
  unfold wrap64; omega
theorem firstEmpty_not {L : List Frm} (h : firstEmpty L = -1) : ∀ f ∈ L, 0 ≤ f.page := by
  intro f hf
  unfold firstEmpty at h
  cases hi : L.findIdx? (fun f => decide (f.page < 0)) with
  | none =>
    rw [List.findIdx?_eq_none_iff] at hi
    have := hi f hf
    simpa using this
  | some i => rw [hi] at h; simp at h
theorem sweep_len {L L' : List Frm} {h a h' : Nat} (s : Sweep L h a L' h') : L'.length = L.length := by
  induction s with
  | stop _ _ => rfl
  | go _ _ _ ih => simpa using ih
/-- What Put leaves, in short. -/
def PutSome (w : World) (G : PoolG) (e : Ending) (w' : World) : Prop :=
  ∃ (gone : Int) (G' : PoolG), e = .returned (.int .i64 gone) ∧ PoolRep w' G' ∧ G'.p = G.p ∧ G'.fb = G.fb ∧ G'.mb = G.mb ∧ G'.L.length = G.L.length ∧ Turned G.own w w' ∧ (0 ≤ gone → ∀ f ∈ G.L, 0 ≤ f.page)
theorem put_some (G : PoolG) (n : Int) (hn : n ≤ 9223372036854775807) (w : World) (h : PoolRep w G) :
    Calls Try.prog 10 #[.pointer (some ⟨G.p, 0, none⟩), .int .i64 n, .slice none 0 0] w (PutSome w G) := by
  by_cases h0 : n < 0
  · refine (put_neg _ n h0 _ _ _ w).mono ?_
    rintro e w' ⟨rfl, rfl⟩
    exact ⟨-1, G, rfl, h, rfl, rfl, rfl, rfl, Turned.refl _ _, by omega⟩
  · refine (put_c G n none 0 0 [] w h (by omega) hn (Bs.nil _ _) (by omega)).mono ?_
    rintro e w' ⟨a, gone, L, C, h', f, m, A, k, c, rfl, hat, hP, hT, _⟩
    refine ⟨gone, _, rfl, hP, rfl, rfl, rfl, ?_, hT, ?_⟩
    · show (L.set a _).length = _
      rw [List.length_set]
      obtain ⟨_, ⟨_, _, h3, _⟩ | ⟨_, _, ⟨_, h3, _⟩ | ⟨_, h3⟩, _⟩⟩ := hat
      · rw [h3]
      · rw [h3]
      · exact sweep_len h3
    · intro hg
      obtain ⟨hf, ⟨_, h2, _⟩ | ⟨_, h2, ⟨h3, h4, _⟩ | ⟨h3, _⟩, _⟩⟩ := hat
      · omega
      · exfalso
        obtain ⟨i, g, hi, hg2, hg3⟩ := firstEmpty_lt (L := G.L) (by omega)
        have : i = a := by omega
        subst this; subst h4
        rw [hg2] at hf; injection hf with hf; subst hf
        omega
      · exact firstEmpty_not h3
/-- Rows of pages in memory. -/
def PagesAt (w : World) (b : Nat) (L : List Frm) : Prop := ∀ i f, L[i]? = some f → w.cell? ⟨b, i, none⟩ = some (.int .i64 f.page)
theorem PagesAt.below {w w' : World} {b : Nat} {L : List Frm} (h : PagesAt w b L) (k : Below w.heap.size w w') : PagesAt w' b L :=
  fun i f hf => (k.cell (World.block_lt_of_cell? w _ (h i f hf))).trans (h i f hf)
theorem PagesAt.turned {S : Nat → Prop} {w w' : World} {b : Nat} {L : List Frm} (h : PagesAt w b L) (k : Turned S w w') (hn : ¬ S b) : PagesAt w' b L :=
  fun i f hf => k.cell (h i f hf) hn
theorem PoolG.own_lt {w : World} {G : PoolG} (h : PoolRep w G) {b : Nat} (hb : w.heap.size ≤ b) : ¬ G.own b := by
  rintro (e | e | e)
  · have := h.bp.lt; omega
  · have := h.bf.lt; omega
  · have := h.bm.lt; omega
theorem pages_at (G : PoolG) (w : World) (h : PoolRep w G) : Calls Try.prog 12 #[.pointer (some ⟨G.p, 0, none⟩)] w fun e w' =>
    ∃ b c, e = .returned (.slice (some ⟨b, 0, none⟩) G.L.length c) ∧ PagesAt w' b G.L ∧ w.heap.size ≤ b ∧ G.L.length ≤ c ∧ c ≤ maxLen ∧ Below w.heap.size w w' := by
  have hpos := h.pos
  refine (pages_c G w h).mono ?_
  rintro e w' ⟨A, c, rfl, hown, hb⟩
  rcases hown.2 with ⟨_, h0⟩ | ⟨g, cap, cur, he, hb2, hg, hnc, hcm, hcs, htk⟩
  · omega
  · injection he with e1 _ e3
    subst e1; subst e3
    refine ⟨g, c, rfl, ?_, hb2, hnc, hcm, hb⟩
    intro i f hf
    have hi := (List.getElem?_eq_some_iff.1 hf).1
    rw [Blk.cell (cs := cur) hg]
    have h1 : (cur.toList.take (G.L.length * 1))[i]? = (pagesOf G.L)[i]? := by rw [htk]
    rw [List.getElem?_take_of_lt (by omega)] at h1
    rw [← Array.getElem?_toList, h1]
    simp [pagesOf, hf]
end Go.Proofs.Ytliakkpmmmgmhaa
