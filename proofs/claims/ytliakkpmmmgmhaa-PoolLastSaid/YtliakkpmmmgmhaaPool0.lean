/- The pool in memory; what Get does. -/
import Derived.Test.YtliakkpmmmgmhaaClone
namespace Go.Proofs.Ytliakkpmmmgmhaa
open Go.RowKit

/-- A frame: its page (none: -1), its mark, where its bytes lie, and what they are. -/
structure Frm where
  page : Int
  mark : Bool
  A : Option Addr
  n : Nat
  c : Nat
  l : List UInt8
/-- The cells of frames. -/
def FrameRow (C : Array Value) (L : List Frm) : Prop :=
  ∀ i f, L[i]? = some f → C[i * 3]? = some (.int .i64 f.page) ∧ C[i * 3 + 1]? = some (.bool f.mark) ∧ C[i * 3 + 2]? = some (.slice f.A f.n f.c)
/-- A pool in memory: its blocks, its frames, its hand, its counts. -/
structure PoolG where
  p : Nat
  fb : Nat
  mb : Nat
  cap : Nat
  C : Array Value
  L : List Frm
  hand : Nat
  hits : Int
  misses : Int
  m : List (Int × Value)
def PoolG.head (G : PoolG) : Array Value := #[.slice (some ⟨G.fb, 0, none⟩) G.L.length G.cap, .int .i64 G.hand, .map (some G.mb), .int .i64 G.hits, .int .i64 G.misses]
structure PoolRep (w : World) (G : PoolG) : Prop where
  bp : Blk w G.p 61 G.head
  bf : Blk w G.fb 64 G.C
  bm : IMap w G.mb G.m
  row : FrameRow G.C G.L
  size : G.C.size = G.cap * 3
  cap : G.L.length ≤ G.cap
  most : G.cap ≤ maxLen
  pos : 0 < G.L.length
  len : G.L.length ≤ 64
  hand : G.hand < G.L.length
  idx : ∀ n v, mget G.m n = some v ↔ ∃ (i : Nat) (f : Frm), G.L[i]? = some f ∧ f.page = n ∧ 0 ≤ n ∧ v = .int .i64 i
  low : ∀ f ∈ G.L, -1 ≤ f.page ∧ f.page ≤ 9223372036854775807
  uniq : ∀ (i j : Nat) (f g : Frm), G.L[i]? = some f → G.L[j]? = some g → f.page = g.page → 0 ≤ f.page → i = j
  vals : ∀ f ∈ G.L, Bs 5 w f.A f.n f.c f.l
  fits : ∀ f ∈ G.L, f.n ≤ 1000
/-- The pool's own blocks, its bytes aside. -/
def PoolG.own (G : PoolG) (k : Nat) : Prop := k = G.p ∨ k = G.fb ∨ k = G.mb

section
variable {w w' : World} {G : PoolG}
theorem PoolRep.p_ne_fb (h : PoolRep w G) : G.p ≠ G.fb := h.bp.ne_ h.bf (by decide)
theorem PoolRep.mb_ne_p (h : PoolRep w G) : G.mb ≠ G.p := h.bm.ne_blk h.bp
theorem PoolRep.mb_ne_fb (h : PoolRep w G) : G.mb ≠ G.fb := h.bm.ne_blk h.bf
theorem PoolRep.not8 (h : PoolRep w G) : ∀ k, G.own k → Not8 5 w k := by
  rintro k (rfl | rfl | rfl)
  · exact h.bp.not8 (by decide)
  · exact h.bf.not8 (by decide)
  · exact h.bm.not8
theorem PoolRep.turned {S : Nat → Prop} (h : PoolRep w G) (k : Turned S w w') (hp : ¬ S G.p) (hf : ¬ S G.fb) (hm : ¬ S G.mb) (h8 : ∀ k, S k → Not8 5 w k) : PoolRep w' G :=
  { h with bp := h.bp.turned k hp, bf := h.bf.turned k hf, bm := h.bm.turned k hm, vals := fun f hf => (h.vals f hf).turned k h8 }
theorem PoolRep.alloc (h : PoolRep w G) (o : Obj) : PoolRep (w.alloc o) G := h.turned (S := fun _ => False) ((Turned.refl _ _).alloc o) id id id (fun _ h => h.elim)
theorem PoolRep.drewN (h : PoolRep w G) (n : Nat) : PoolRep (w.drewN n) G := h.turned (S := fun _ => False) ((Turned.refl _ _).drewN n) id id id (fun _ h => h.elim)
theorem PoolRep.below (h : PoolRep w G) (k : Below w.heap.size w w') : PoolRep w' G := h.turned (S := fun _ => False) (Turned.of_below k) id id id (fun _ h => h.elim)
end

/-- Frames with another one at a place. -/
theorem FrameRow.set {C : Array Value} {L : List Frm} (h : FrameRow C L) (i : Nat) (f : Frm) :
    FrameRow (((C.setIfInBounds (i * 3) (.int .i64 f.page)).setIfInBounds (i * 3 + 1) (.bool f.mark)).setIfInBounds (i * 3 + 2) (.slice f.A f.n f.c)) (L.set i f) ∨ ¬ (i * 3 + 2 < C.size) := by
  by_cases hs : i * 3 + 2 < C.size
  · left
    intro j g hg
    by_cases e : i = j
    · subst e
      rw [List.getElem?_set] at hg
      simp at hg
      obtain ⟨_, rfl⟩ := hg
      refine ⟨?_, ?_, ?_⟩ <;> simp [Array.getElem?_setIfInBounds] <;> (try split) <;> (try omega) <;> simp_all <;> omega
    · rw [List.getElem?_set_ne e] at hg
      obtain ⟨h0, h1, h2⟩ := h j g hg
      refine ⟨?_, ?_, ?_⟩
      · rw [Array.getElem?_setIfInBounds_ne (by omega), Array.getElem?_setIfInBounds_ne (by omega), Array.getElem?_setIfInBounds_ne (by omega)]; exact h0
      · rw [Array.getElem?_setIfInBounds_ne (by omega), Array.getElem?_setIfInBounds_ne (by omega), Array.getElem?_setIfInBounds_ne (by omega)]; exact h1
      · rw [Array.getElem?_setIfInBounds_ne (by omega), Array.getElem?_setIfInBounds_ne (by omega), Array.getElem?_setIfInBounds_ne (by omega)]; exact h2
  · exact .inr hs
theorem FrameRow.marked {C : Array Value} {L : List Frm} (h : FrameRow C L) {i : Nat} {f : Frm} (hf : L[i]? = some f) (b : Bool) :
    FrameRow (C.setIfInBounds (i * 3 + 1) (.bool b)) (L.set i { f with mark := b }) := by
  intro j g hg
  by_cases e : i = j
  · subst e
    rw [List.getElem?_set] at hg
    simp at hg
    obtain ⟨_, rfl⟩ := hg
    obtain ⟨h0, h1, h2⟩ := h i f hf
    refine ⟨?_, ?_, ?_⟩
    · rw [Array.getElem?_setIfInBounds_ne (by omega)]; exact h0
    · have := (Array.getElem?_eq_some_iff.1 h1).1
      rw [Array.getElem?_setIfInBounds_self_of_lt this]
    · rw [Array.getElem?_setIfInBounds_ne (by omega)]; exact h2
  · rw [List.getElem?_set_ne e] at hg
    obtain ⟨h0, h1, h2⟩ := h j g hg
    refine ⟨?_, ?_, ?_⟩
    · rw [Array.getElem?_setIfInBounds_ne (by omega)]; exact h0
    · rw [Array.getElem?_setIfInBounds_ne (by omega)]; exact h1
    · rw [Array.getElem?_setIfInBounds_ne (by omega)]; exact h2

/-- A frame's mark, the hand, and the count of hits, are other ones. -/
def PoolG.remark (G : PoolG) (i : Nat) (f : Frm) (b : Bool) (hand : Nat) (hits : Int) : PoolG := { G with L := G.L.set i { f with mark := b }, C := G.C.setIfInBounds (i * 3 + 1) (.bool b), hand := hand, hits := hits }
/-- Get found a page: the frame is marked. -/
def PoolG.hit (G : PoolG) (i : Nat) (f : Frm) : PoolG := G.remark i f true G.hand (wrap64 (G.hits + 1))
def PoolG.miss (G : PoolG) : PoolG := { G with misses := wrap64 (G.misses + 1) }

theorem mem_set {L : List Frm} {i : Nat} {f g : Frm} (h : g ∈ L.set i f) : g = f ∨ g ∈ L := (List.mem_or_eq_of_mem_set h).symm
theorem PoolRep.remark {w w' : World} {G : PoolG} (h : PoolRep w G) {i : Nat} {f : Frm} (hf : G.L[i]? = some f) {b : Bool} {hand : Nat} {hits : Int} (hh : hand < G.L.length) (hp : Blk w' G.p 61 (G.remark i f b hand hits).head) (hb : Blk w' G.fb 64 (G.remark i f b hand hits).C) (k : Turned G.own w w') (hm : IMap w' G.mb G.m) : PoolRep w' (G.remark i f b hand hits) := by
  have hmem : f ∈ G.L := List.mem_of_getElem? hf
  have hlt := (List.getElem?_eq_some_iff.1 hf).1
  have key : ∀ (j : Nat) (g : Frm), (G.L.set i { f with mark := b })[j]? = some g → ∃ g' : Frm, G.L[j]? = some g' ∧ g'.page = g.page := by
    intro j g hg
    by_cases e : i = j
    · subst e; rw [List.getElem?_set] at hg; simp at hg; obtain ⟨_, rfl⟩ := hg; exact ⟨f, hf, rfl⟩
    · rw [List.getElem?_set_ne e] at hg; exact ⟨g, hg, rfl⟩
  have key2 : ∀ (j : Nat) (g' : Frm), G.L[j]? = some g' → ∃ g : Frm, (G.L.set i { f with mark := b })[j]? = some g ∧ g.page = g'.page := by
    intro j g' hg
    by_cases e : i = j
    · subst e; rw [hf] at hg; injection hg with hg; subst hg
      exact ⟨{ f with mark := b }, by rw [List.getElem?_set]; simp [hlt], rfl⟩
    · exact ⟨g', by rw [List.getElem?_set_ne e]; exact hg, rfl⟩
  refine ⟨hp, hb, hm, h.row.marked hf b, by simpa [PoolG.remark] using h.size, by simpa [PoolG.remark] using h.cap, h.most, by simpa [PoolG.remark] using h.pos, by simpa [PoolG.remark] using h.len, by simpa [PoolG.remark] using hh, ?_, ?_, ?_, ?_, ?_⟩
  · intro n v
    show mget G.m n = some v ↔ _
    rw [h.idx n v]
    constructor
    · rintro ⟨j, g', hg, h1, h2, h3⟩
      obtain ⟨g, hg2, he⟩ := key2 j g' hg
      exact ⟨j, g, hg2, he.trans h1, h2, h3⟩
    · rintro ⟨j, g, hg, h1, h2, h3⟩
      obtain ⟨g', hg2, he⟩ := key j g hg
      exact ⟨j, g', hg2, he.trans h1, h2, h3⟩
  · intro g hg
    rcases mem_set hg with rfl | hg
    · exact h.low f hmem
    · exact h.low g hg
  · intro a b x y hx hy hxy h0
    obtain ⟨x', hx', ex⟩ := key a x hx
    obtain ⟨y', hy', ey⟩ := key b y hy
    exact h.uniq a b x' y' hx' hy' (by rw [ex, ey, hxy]) (by rw [ex]; exact h0)
  · intro g hg
    rcases mem_set hg with rfl | hg
    · exact (h.vals f hmem).turned k h.not8
    · exact (h.vals g hg).turned k h.not8
  · intro g hg
    rcases mem_set hg with rfl | hg
    · exact h.fits f hmem
    · exact h.fits g hg
theorem PoolRep.miss {w w' : World} {G : PoolG} (h : PoolRep w G) (hp : Blk w' G.p 61 G.miss.head) (k : Turned (fun k => k = G.p) w w') : PoolRep w' G.miss :=
  { bp := hp, bf := h.bf.turned k (fun e => h.p_ne_fb e.symm), bm := h.bm.turned k h.mb_ne_p, row := h.row, size := h.size, cap := h.cap, most := h.most, pos := h.pos, len := h.len, hand := h.hand, idx := h.idx, low := h.low, uniq := h.uniq,
    vals := fun f hf => (h.vals f hf).turned k (fun j e => by subst e; exact h.bp.not8 (by decide)), fits := h.fits }
end Go.Proofs.Ytliakkpmmmgmhaa
