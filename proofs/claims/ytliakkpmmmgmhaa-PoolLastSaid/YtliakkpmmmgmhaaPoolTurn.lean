/- In which order pages go. -/
import Derived.Test.YtliakkpmmmgmhaaPoolMore
namespace Go.Proofs.Ytliakkpmmmgmhaa
open Go.RowKit

theorem sweep_pages {L L' : List Frm} {h a h' : Nat} (s : Sweep L h a L' h') : ∀ (i : Nat) (f : Frm), L'[i]? = some f → ∃ g : Frm, L[i]? = some g ∧ f.page = g.page := by
  induction s with
  | stop _ _ => exact fun i f hf => ⟨f, hf, rfl⟩
  | @go L h f a L' h' hf hm k ih =>
    intro i g hg
    obtain ⟨x, hx, e⟩ := ih i g hg
    by_cases hi : h = i
    · subst hi
      rw [List.getElem?_set] at hx
      split at hx
      · split at hx
        · injection hx with hx; subst hx; exact ⟨f, hf, e⟩
        · cases hx
      · exact ⟨x, hx, e⟩
    · rw [List.getElem?_set_ne hi] at hx; exact ⟨x, hx, e⟩
/-- The hand goes to the first frame without a mark. -/
theorem sweep_to {L L' : List Frm} {h a h' : Nat} (s : Sweep L h a L' h') : ∀ n, h ≤ n → (∀ (i : Nat) (f : Frm), h ≤ i → i < n → L[i]? = some f → f.mark = true) → (∃ f : Frm, L[n]? = some f ∧ f.mark = false) →
    a = n ∧ h' = (n + 1) % L.length ∧ ∀ i : Nat, n ≤ i → L'[i]? = L[i]? := by
  induction s with
  | @stop L h f hf hm =>
    intro n hn hb _
    have : h = n := by
      rcases Nat.lt_or_ge h n with hlt | hge
      · have := hb h f (Nat.le_refl _) hlt hf
        rw [hm] at this; cases this
      · omega
    subst this
    exact ⟨rfl, rfl, fun _ _ => rfl⟩
  | @go L h f a L' h' hf hm k ih =>
    intro n hn hb hat
    obtain ⟨g, hg, hgm⟩ := hat
    have hne : h ≠ n := by
      intro e; subst e
      rw [hf] at hg; injection hg with hg; subst hg
      rw [hm] at hgm; cases hgm
    have hnl := (List.getElem?_eq_some_iff.1 hg).1
    have hmod : (h + 1) % L.length = h + 1 := Nat.mod_eq_of_lt (by omega)
    obtain ⟨h1, h2, h3⟩ := ih n (by omega) (by
      intro i x hi hin hx
      rw [List.getElem?_set_ne (by omega)] at hx
      exact hb i x (by omega) hin hx) ⟨g, by rw [List.getElem?_set_ne hne]; exact hg, hgm⟩
    refine ⟨h1, by simpa using h2, fun i hi => ?_⟩
    rw [h3 i hi, List.getElem?_set_ne (by omega)]
/-- Of frames all of which are marked, the hand takes all marks, and stops where it began. -/
theorem sweep_all {L L' : List Frm} {h a h' : Nat} (s : Sweep L h a L' h') : (∀ (i : Nat) (f : Frm), i < h → L[i]? = some f → f.mark = false) → (∀ (i : Nat) (f : Frm), h ≤ i → L[i]? = some f → f.mark = true) → h < L.length →
    a = 0 ∧ h' = 1 % L.length ∧ ∀ (i : Nat) (f : Frm), L'[i]? = some f → f.mark = false := by
  induction s with
  | @stop L h f hf hm =>
    intro _ hb _
    have := hb h f (Nat.le_refl _) hf
    rw [hm] at this; cases this
  | @go L h f a L' h' hf hm k ih =>
    intro ha hb hl
    rcases Nat.lt_or_ge (h + 1) L.length with hlt | hge
    · have hmod : (h + 1) % L.length = h + 1 := Nat.mod_eq_of_lt hlt
      rw [hmod] at ih
      have := ih (by
        intro i x hi hx
        by_cases e : h = i
        · subst e
          rw [List.getElem?_set] at hx
          simp at hx
          rw [← hx.2]
        · rw [List.getElem?_set_ne e] at hx; exact ha i x (by omega) hx)
        (by intro i x hi hx
            rw [List.getElem?_set_ne (by omega)] at hx; exact hb i x (by omega) hx)
        (by simpa using hlt)
      simpa using this
    · have hmod : (h + 1) % L.length = 0 := by
        have : h + 1 = L.length := by omega
        rw [this, Nat.mod_self]
      have hun : ∀ (i : Nat) (x : Frm), (L.set h { f with mark := false })[i]? = some x → x.mark = false := by
        intro i x hx
        by_cases e : h = i
        · subst e
          rw [List.getElem?_set] at hx
          simp at hx
          rw [← hx.2]
        · rw [List.getElem?_set_ne e] at hx
          have := (List.getElem?_eq_some_iff.1 hx).1
          exact ha i x (by omega) hx
      rw [hmod] at k
      obtain ⟨g, hg⟩ : ∃ g, (L.set h { f with mark := false })[0]? = some g := ⟨_, List.getElem?_eq_getElem (by simp; omega)⟩
      obtain ⟨h1, h2, h3⟩ := sweep_to k 0 (Nat.le_refl _) (by intro i x _ hi; omega) ⟨g, hg, hun 0 g hg⟩
      exact ⟨h1, by simpa using h2, fun i x hx => hun i x (by rw [← h3 i (Nat.zero_le _)]; exact hx)⟩

/-- The first j frames hold the pages 0 to j - 1, marked; the others are empty. -/
def Fill (G : PoolG) (k j : Nat) : Prop := G.L.length = k ∧ G.hand = 0 ∧ ∀ (i : Nat) (f : Frm), G.L[i]? = some f → (i < j → f.page = i ∧ f.mark = true) ∧ (j ≤ i → f.page < 0)
/-- The pool in the midst of the pages' going. -/
def Ord (G : PoolG) (k : Nat) (is : Nat → Bool) (n next : Nat) : Prop :=
  G.L.length = k ∧ (∀ f ∈ G.L, 0 ≤ f.page ∧ f.page < next) ∧
  (n < k → G.hand ≤ n ∧ (∀ (i : Nat) (f : Frm), G.hand ≤ i → i < n → G.L[i]? = some f → f.mark = true) ∧ ∀ (i : Nat) (f : Frm), n ≤ i → G.L[i]? = some f → f.page = i ∧ f.mark = is i)
/-- The pool's blocks are the same. -/
def SameOwn (G G' : PoolG) : Prop := G'.p = G.p ∧ G'.fb = G.fb ∧ G'.mb = G.mb

theorem put_fill (G : PoolG) (k j : Nat) (hj : j < k) (hk : k ≤ 64) (hF : Fill G k j) (w : World) (h : PoolRep w G) :
    Calls Try.prog 10 #[.pointer (some ⟨G.p, 0, none⟩), .int .i64 (j : Int), .slice none 0 0] w fun e w' =>
      ∃ (gone : Int) (G' : PoolG), e = .returned (.int .i64 gone) ∧ PoolRep w' G' ∧ SameOwn G G' ∧ Fill G' k (j + 1) ∧ Turned G.own w w' := by
  obtain ⟨hl, hh, hf⟩ := hF
  have hno : mget G.m (j : Int) = none := h.get_no (by
    intro f hm
    obtain ⟨i, hi⟩ := List.getElem?_of_mem hm
    have := hf i f hi
    by_cases e : i < j
    · have := (this.1 e).1; omega
    · have := this.2 (by omega); omega)
  obtain ⟨fj, hfj⟩ : ∃ f, G.L[j]? = some f := ⟨_, List.getElem?_eq_getElem (by omega)⟩
  have hfe : firstEmpty G.L = j := firstEmpty_at hfj ((hf j fj hfj).2 (Nat.le_refl _)) (by
    intro i g hi hg
    have := ((hf i g hg).1 hi).1; omega)
  refine (put_c G j none 0 0 [] w h (by omega) (by omega) (Bs.nil _ _) (by omega)).mono ?_
  rintro e w' ⟨a, gone, L, C, h', f, m, A, k', c, rfl, hat, hP, hT, _⟩
  obtain ⟨rfl, rfl, rfl, _, _⟩ := hat.empty hno hfe
  refine ⟨gone, _, rfl, hP, ⟨rfl, rfl, rfl⟩, ⟨by simpa [PoolG.frame, PoolG.swept] using hl, hh, ?_⟩, hT⟩
  intro i g hg
  simp only [PoolG.frame, PoolG.swept] at hg
  by_cases e : a = i
  · subst e
    rw [List.getElem?_set] at hg
    simp at hg
    obtain ⟨_, rfl⟩ := hg
    exact ⟨fun _ => ⟨rfl, rfl⟩, fun h => absurd h (by omega)⟩
  · rw [List.getElem?_set_ne e] at hg
    exact ⟨fun h => (hf i g hg).1 (by omega), fun h => (hf i g hg).2 (by omega)⟩

theorem put_over (G : PoolG) (k : Nat) (h2 : 2 ≤ k) (hk : k ≤ 64) (hF : Fill G k k) (w : World) (h : PoolRep w G) :
    Calls Try.prog 10 #[.pointer (some ⟨G.p, 0, none⟩), .int .i64 (k : Int), .slice none 0 0] w fun e w' =>
      e = .returned (.int .i64 0) ∧ ∃ (G' : PoolG), PoolRep w' G' ∧ SameOwn G G' ∧ Ord G' k (fun _ => false) 1 (k + 1) ∧ Turned G.own w w' := by
  obtain ⟨hl, hh, hf⟩ := hF
  have hlt : ∀ {i : Nat} {f : Frm}, G.L[i]? = some f → i < k := fun h => by have := (List.getElem?_eq_some_iff.1 h).1; omega
  have hno : mget G.m (k : Int) = none := h.get_no (by
    intro f hm
    obtain ⟨i, hi⟩ := List.getElem?_of_mem hm
    have h1 := hlt hi
    have := ((hf i f hi).1 h1).1; omega)
  have hfe : firstEmpty G.L = -1 := firstEmpty_none (by
    intro i g hi hg
    have := ((hf i g hg).1 (by omega)).1; omega)
  refine (put_c G k none 0 0 [] w h (by omega) (by omega) (Bs.nil _ _) (by omega)).mono ?_
  rintro e w' ⟨a, gone, L, C, h', f, m, A, k', c, rfl, hat, hP, hT, _⟩
  obtain ⟨hs, rfl, hfa⟩ := hat.full hno hfe
  have hp := sweep_pages hs
  have hsl := sweep_len hs
  obtain ⟨rfl, hh', hun⟩ := sweep_all hs (by intro i f hi; omega) (by intro i f _ hg; exact ((hf i f hg).1 (hlt hg)).2) (by omega)
  have hh1 : h' = 1 := by rw [hh', hl]; exact Nat.mod_eq_of_lt (by omega)
  subst hh1
  obtain ⟨f0, hf0, e0⟩ := hp 0 f hfa
  have hz : f.page = 0 := by rw [e0]; exact ((hf 0 f0 hf0).1 (hlt hf0)).1
  refine ⟨by rw [hz], _, hP, ⟨rfl, rfl, rfl⟩, ⟨by simp [PoolG.frame, PoolG.swept]; omega, ?_, ?_⟩, hT⟩
  · intro g hg
    simp only [PoolG.frame, PoolG.swept] at hg
    rcases mem_set hg with rfl | hg
    · exact ⟨by simp, by simp; omega⟩
    · obtain ⟨i, hi⟩ := List.getElem?_of_mem hg
      obtain ⟨x, hx, ex⟩ := hp i g hi
      have h1 := hlt hx
      have := ((hf i x hx).1 h1).1; omega
  · intro _
    simp only [PoolG.frame, PoolG.swept]
    refine ⟨Nat.le_refl _, by intro i f h1 h2; omega, ?_⟩
    intro i g hi hg
    rw [List.getElem?_set_ne (by omega)] at hg
    obtain ⟨x, hx, ex⟩ := hp i g hg
    exact ⟨by rw [ex]; exact ((hf i x hx).1 (hlt hx)).1, hun i g hg⟩

theorem get_ord (G : PoolG) (k m : Nat) (is : Nat → Bool) (next : Nat) (hk : 2 ≤ k) (hm : m < k) (hO : Ord G k is 1 next) (w : World) (h : PoolRep w G) :
    Calls Try.prog 11 #[.pointer (some ⟨G.p, 0, none⟩), .int .i64 (m : Int)] w fun e w' =>
      ∃ (v : Value) (G' : PoolG), e = .returned v ∧ PoolRep w' G' ∧ SameOwn G G' ∧ Ord G' k (fun i => decide (i = m) || is i) 1 next ∧ Turned G.own w w' := by
  obtain ⟨hl, hb, hc⟩ := hO
  obtain ⟨hh, hc1, hc2⟩ := hc (by omega)
  cases hmg : mget G.m (m : Int) with
  | none =>
    refine (get_miss G m w h hmg).mono ?_
    rintro e w' ⟨rfl, hP, hT⟩
    refine ⟨_, _, rfl, hP, ⟨rfl, rfl, rfl⟩, ⟨hl, hb, fun _ => ⟨hh, hc1, ?_⟩⟩, hT⟩
    intro i f hi hf
    obtain ⟨h1, h2⟩ := hc2 i f hi hf
    refine ⟨h1, ?_⟩
    have : i ≠ m := by
      intro e; subst e
      rw [h.get_yes hf h1 (by omega)] at hmg; cases hmg
    simp [this, h2]
  | some v =>
    obtain ⟨i, f, hf, hp, _, rfl⟩ := (h.idx _ v).1 hmg
    refine (get_hit G m i f w h hmg hf).mono ?_
    rintro e w' ⟨v, rfl, _, hP, hT⟩
    refine ⟨_, _, rfl, hP, ⟨rfl, rfl, rfl⟩, ⟨by simpa [PoolG.hit, PoolG.remark] using hl, ?_, fun _ => ⟨hh, ?_, ?_⟩⟩, hT⟩
    · intro g hg
      simp only [PoolG.hit, PoolG.remark] at hg
      rcases mem_set hg with rfl | hg
      · exact hb f (List.mem_of_getElem? hf)
      · exact hb g hg
    · intro j g h1 h2 hg
      simp only [PoolG.hit, PoolG.remark] at hg
      by_cases e : i = j
      · subst e
        rw [List.getElem?_set] at hg
        simp at hg
        rw [← hg.2]
      · rw [List.getElem?_set_ne e] at hg; exact hc1 j g h1 h2 hg
    · intro j g h1 hg
      simp only [PoolG.hit, PoolG.remark] at hg
      by_cases e : i = j
      · subst e
        rw [List.getElem?_set] at hg
        simp at hg
        obtain ⟨_, rfl⟩ := hg
        have := (hc2 i f h1 hf).1
        have e2 : i = m := by omega
        exact ⟨this, by simp [e2]⟩
      · rw [List.getElem?_set_ne e] at hg
        obtain ⟨h3, h4⟩ := hc2 j g h1 hg
        have : j ≠ m := by
          intro e2; subst e2
          exact e (h.uniq i j f g hf hg (by omega) (by omega))
        exact ⟨h3, by simp [this, h4]⟩

theorem Ord.skip {G : PoolG} {k n next : Nat} {is : Nat → Bool} (hO : Ord G k is n next) (hn : n < k) (hi : is n = true) : Ord G k is (n + 1) next := by
  obtain ⟨hl, hb, hc⟩ := hO
  obtain ⟨hh, hc1, hc2⟩ := hc hn
  refine ⟨hl, hb, fun _ => ⟨by omega, ?_, fun i f hi hf => hc2 i f (by omega) hf⟩⟩
  intro i f h1 h2 hf
  by_cases e : i < n
  · exact hc1 i f h1 e hf
  · have : i = n := by omega
    subst this
    rw [(hc2 i f (Nat.le_refl _) hf).2, hi]
theorem put_ord (G : PoolG) (k n next : Nat) (is : Nat → Bool) (hnx : next ≤ 1000) (hn : n < k) (hi : is n = false) (hO : Ord G k is n next) (w : World) (h : PoolRep w G) :
    Calls Try.prog 10 #[.pointer (some ⟨G.p, 0, none⟩), .int .i64 (next : Int), .slice none 0 0] w fun e w' =>
      e = .returned (.int .i64 (n : Int)) ∧ ∃ (G' : PoolG), PoolRep w' G' ∧ SameOwn G G' ∧ Ord G' k is (n + 1) (next + 1) ∧ Turned G.own w w' := by
  obtain ⟨hl, hb, hc⟩ := hO
  obtain ⟨hh, hc1, hc2⟩ := hc hn
  have hno : mget G.m (next : Int) = none := h.get_no (by
    intro f hm
    have := (hb f hm).2; omega)
  have hfe : firstEmpty G.L = -1 := firstEmpty_none (fun i g _ hg => (hb g (List.mem_of_getElem? hg)).1)
  obtain ⟨g, hg⟩ : ∃ f, G.L[n]? = some f := ⟨_, List.getElem?_eq_getElem (by omega)⟩
  obtain ⟨hgp, hgm⟩ := hc2 n g (Nat.le_refl _) hg
  refine (put_c G next none 0 0 [] w h (by omega) (by omega) (Bs.nil _ _) (by omega)).mono ?_
  rintro e w' ⟨a, gone, L, C, h', f, m, A, k', c, rfl, hat, hP, hT, _⟩
  obtain ⟨hs, rfl, hfa⟩ := hat.full hno hfe
  have hp := sweep_pages hs
  have hsl := sweep_len hs
  obtain ⟨rfl, hh', hsame⟩ := sweep_to hs n hh hc1 ⟨g, hg, by rw [hgm, hi]⟩
  have : f = g := by rw [hsame a (Nat.le_refl _), hg] at hfa; injection hfa with hfa; exact hfa.symm
  subst this
  refine ⟨by rw [hgp], _, hP, ⟨rfl, rfl, rfl⟩, ⟨by simp [PoolG.frame, PoolG.swept]; omega, ?_, ?_⟩, hT⟩
  · intro g hg
    simp only [PoolG.frame, PoolG.swept] at hg
    rcases mem_set hg with rfl | hg
    · exact ⟨by simp, by simp; omega⟩
    · obtain ⟨i, hi⟩ := List.getElem?_of_mem hg
      obtain ⟨x, hx, ex⟩ := hp i g hi
      have := hb x (List.mem_of_getElem? hx)
      omega
  · intro hk2
    have hmod : h' = a + 1 := by rw [hh', hl]; exact Nat.mod_eq_of_lt hk2
    simp only [PoolG.frame, PoolG.swept]
    refine ⟨by omega, fun i f h1 h2 => by omega, ?_⟩
    intro i x hi2 hx
    rw [List.getElem?_set_ne (by omega), hsame i (by omega)] at hx
    exact hc2 i x (by omega) hx
end Go.Proofs.Ytliakkpmmmgmhaa
