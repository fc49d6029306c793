/- The frame that a new page takes. -/
import Derived.Test.YtliakkpmmmgmhaaPool2
namespace Go.Proofs.Ytliakkpmmmgmhaa
open Go.RowKit

set_option maxRecDepth 100000 in
set_option maxHeartbeats 1000000 in
theorem empty_c (f : Frm) (w : World) : Calls Try.prog 55 #[.agg #[.int .i64 f.page, .bool f.mark, .slice f.A f.n f.c]] w fun e w' => e = .returned (.bool (decide (f.page < 0))) ∧ Below w.heap.size w w' := by
  go_enter Try.func55, Try.ntmps55
  go_wp2
  go_ret
  exact ⟨rfl, (Below.refl _ _).alloc (Nat.le_refl _) _⟩

/-- The first frame that is empty. -/
def firstEmpty (L : List Frm) : Int := match L.findIdx? (fun f => decide (f.page < 0)) with | some i => i | none => -1
theorem firstEmpty_at {L : List Frm} {i : Nat} {f : Frm} (hf : L[i]? = some f) (h : f.page < 0) (hb : ∀ j g, j < i → L[j]? = some g → 0 ≤ g.page) : firstEmpty L = i := by
  have : L.findIdx? (fun f => decide (f.page < 0)) = some i := by
    rw [List.findIdx?_eq_some_iff_getElem]
    obtain ⟨hlt, he⟩ := List.getElem?_eq_some_iff.1 hf
    refine ⟨hlt, by rw [he]; simpa using h, fun j hj => ?_⟩
    have := hb j L[j] hj (List.getElem?_eq_getElem (by omega))
    simpa using this
  unfold firstEmpty; rw [this]
theorem firstEmpty_none {L : List Frm} (hb : ∀ j g, j < L.length → L[j]? = some g → 0 ≤ g.page) : firstEmpty L = -1 := by
  have : L.findIdx? (fun f => decide (f.page < 0)) = none := by
    rw [List.findIdx?_eq_none_iff]
    intro x hx
    obtain ⟨j, hj⟩ := List.mem_iff_getElem?.1 hx
    have := hb j x (List.getElem?_eq_some_iff.1 hj).1 hj
    simpa using this
  unfold firstEmpty; rw [this]

set_option maxRecDepth 100000 in
set_option maxHeartbeats 2000000 in
theorem index_c (fb cap : Nat) (C : Array Value) (L : List Frm) (w : World) (hb : Blk w fb 64 C) (hr : FrameRow C L) (hL : L.length ≤ 64) :
    Calls Try.prog 54 #[.slice (some ⟨fb, 0, none⟩) L.length cap, .func (.func 55) #[] #[]] w fun e w' => e = .returned (.int .i64 (firstEmpty L)) ∧ Below w.heap.size w w' := by
  have HB := Lib.hid hb
  have HR := Lib.hid hr
  have hlt := hb.lt
  clear hb hr
  go_enter Try.func54, Try.ntmps54
  go_wp2
  go_loopw [8] (fun i wr => ∃ k : Nat, k ≤ L.length ∧ i = .int .i64 k ∧ Hid (∀ j g, j < k → L[j]? = some g → 0 ≤ g.page) ∧ Hid (Below w.heap.size w wr)) (fun i _ => L.length - (intOf i).toNat)
  case atStart => exact ⟨0, Nat.zero_le _, rfl, fun j g hj => by omega, Below.refl _ _⟩
  case round =>
    obtain ⟨k, hk, rfl, HP, HW⟩ := hrel
    by_cases hkl : k < L.length
    · obtain ⟨f, hf⟩ : ∃ f, L[k]? = some f := ⟨_, List.getElem?_eq_getElem hkl⟩
      obtain ⟨r0, r1, r2⟩ := HR.out k f hf
      have hb2 := HB.out.below HW.out hlt
      have c0 : wr.cell? ⟨fb, k * 3, none⟩ = some (.int .i64 f.page) := by rw [hb2.cell]; exact r0
      have c1 : wr.cell? ⟨fb, k * 3 + 1, none⟩ = some (.bool f.mark) := by rw [hb2.cell]; exact r1
      have c2 : wr.cell? ⟨fb, k * 3 + 2, none⟩ = some (.slice f.A f.n f.c) := by rw [hb2.cell]; exact r2
      have HF := Lib.hid hf
      clear hf r0 r1 r2 hb2
      go_wp2_with fail
      refine (empty_c f _).mono ?_; rintro e w1 ⟨rfl, h1⟩
      have H1 := Lib.hid (HW.out.trans (h1.mono HW.out.size)); clear h1
      go_wp2_with fail
      · have hneg : f.page < 0 := by assumption
        go_ret
        exact ⟨by rw [firstEmpty_at HF.out hneg HP.out]; rfl, H1.out⟩
      · have hneg : 0 ≤ f.page := by assumption
        go_roundw
        case rel =>
          refine ⟨k + 1, by omega, by go_num, ?_, H1⟩
          intro j g hj hg
          by_cases e : j = k
          · subst e; rw [HF.out] at hg; injection hg with hg; subst hg; exact hneg
          · exact HP.out j g (by omega) hg
        case measure => simp [intOf]; omega
    · obtain rfl : k = L.length := by omega
      go_wp2_with fail
      go_ret
      exact ⟨by rw [firstEmpty_none HP.out]; rfl, HW.out⟩

/-- The hand goes on over marked frames, and takes their marks; it stops at one without a mark. -/
inductive Sweep : List Frm → Nat → Nat → List Frm → Nat → Prop
  | stop {L : List Frm} {h : Nat} {f : Frm} (hf : L[h]? = some f) (hm : f.mark = false) : Sweep L h h L ((h + 1) % L.length)
  | go {L : List Frm} {h : Nat} {f : Frm} {a : Nat} {L' : List Frm} {h' : Nat} (hf : L[h]? = some f) (hm : f.mark = true) (k : Sweep (L.set h { f with mark := false }) ((h + 1) % L.length) a L' h') : Sweep L h a L' h'
/-- The pool behind a sweep. -/
def PoolG.swept (G : PoolG) (L : List Frm) (C : Array Value) (h : Nat) : PoolG := { G with L := L, C := C, hand := h }
def Placed (w : World) (G : PoolG) (e : Ending) (w' : World) : Prop :=
  ∃ (a : Nat) (L : List Frm) (C : Array Value) (h : Nat), e = .returned (.int .i64 a) ∧ ((firstEmpty G.L = a ∧ L = G.L ∧ h = G.hand) ∨ (firstEmpty G.L = -1 ∧ Sweep G.L G.hand a L h)) ∧ PoolRep w' (G.swept L C h) ∧ Turned G.own w w'

theorem firstEmpty_lt {L : List Frm} (h : 0 ≤ firstEmpty L) : ∃ (i : Nat) (f : Frm), firstEmpty L = i ∧ L[i]? = some f ∧ f.page < 0 := by
  unfold firstEmpty at *
  cases hi : L.findIdx? (fun f => decide (f.page < 0)) with
  | none => rw [hi] at h; simp at h
  | some i =>
    rw [List.findIdx?_eq_some_iff_getElem] at hi
    obtain ⟨hlt, hp, _⟩ := hi
    exact ⟨i, L[i], rfl, List.getElem?_eq_getElem hlt, by simpa using hp⟩
theorem firstEmpty_ge (L : List Frm) : -1 ≤ firstEmpty L := by
  unfold firstEmpty; split <;> omega
def marks (L : List Frm) : Nat := (L.filter (·.mark)).length
theorem marks_set {L : List Frm} {h : Nat} {f : Frm} (hf : L[h]? = some f) (hm : f.mark = true) : marks (L.set h { f with mark := false }) + 1 = marks L := by
  induction L generalizing h with
  | nil => simp at hf
  | cons x L ih =>
    cases h with
    | zero =>
      simp at hf; subst hf
      simp [marks, hm]
    | succ h =>
      simp at hf
      have := ih hf
      unfold marks at *
      simp only [List.set_cons_succ, List.filter_cons]
      split <;> simp_all
theorem place_mod (G : PoolG) : ((G.hand : Int) + 1) % (G.L.length : Int) = (((G.hand + 1) % G.L.length : Nat) : Int) := by norm_cast

/-- The world in which the hand has gone on. -/
theorem hand_world {G : PoolG} {w : World} (h : PoolRep w G) (h' : Nat) (hh : h' < G.L.length) :
    PoolRep (w.setCell ⟨G.p, 1, none⟩ (.int .i64 h')) { G with hand := h' } ∧ Turned G.own w (w.setCell ⟨G.p, 1, none⟩ (.int .i64 h')) := by
  have hT : Turned G.own w (w.setCell ⟨G.p, 1, none⟩ (.int .i64 h')) := (Turned.refl _ w).setCell (p := ⟨G.p, 1, none⟩) (fun _ => Or.inl rfl) _
  refine ⟨?_, hT⟩
  refine ⟨?_, h.bf.far (p := ⟨G.p, 1, none⟩) (fun e => h.p_ne_fb e.symm) _, h.bm.setCell _ _, h.row, h.size, h.cap, h.most, h.pos, h.len, hh, h.idx, h.low, h.uniq, fun f hf => (h.vals f hf).turned hT h.not8, h.fits⟩
  have := h.bp.set_ 1 (.int .i64 h')
  simpa [PoolG.head] using this
theorem sweep_world {G : PoolG} {w : World} {f : Frm} (h : PoolRep w G) (hf : G.L[G.hand]? = some f) (h' : Nat) (hh : h' < G.L.length) :
    PoolRep ((w.setCell ⟨G.p, 1, none⟩ (.int .i64 h')).setCell ⟨G.fb, G.hand * 3 + 1, none⟩ (.bool false)) (G.remark G.hand f false h' G.hits) ∧
    Turned G.own w ((w.setCell ⟨G.p, 1, none⟩ (.int .i64 h')).setCell ⟨G.fb, G.hand * 3 + 1, none⟩ (.bool false)) := by
  have hT : Turned G.own w ((w.setCell ⟨G.p, 1, none⟩ (.int .i64 h')).setCell ⟨G.fb, G.hand * 3 + 1, none⟩ (.bool false)) :=
    ((Turned.refl _ w).setCell (p := ⟨G.p, 1, none⟩) (fun _ => Or.inl rfl) _).setCell (p := ⟨G.fb, G.hand * 3 + 1, none⟩) (fun _ => Or.inr (Or.inl rfl)) _
  refine ⟨h.remark hf hh ?_ ?_ hT ((h.bm.setCell _ _).setCell _ _), hT⟩
  · have := (h.bp.set_ 1 (.int .i64 h')).far (p := ⟨G.fb, G.hand * 3 + 1, none⟩) h.p_ne_fb (.bool false)
    simpa [PoolG.head, PoolG.remark] using this
  · exact (h.bf.far (p := ⟨G.p, 1, none⟩) (fun e => h.p_ne_fb e.symm) _).set_ (G.hand * 3 + 1) (.bool false)

/-- A pool in the midst of a sweep. -/
def Mid (w : World) (G : PoolG) (k : Nat) (wr : World) : Prop :=
  ∃ G' : PoolG, marks G'.L = k ∧ G'.p = G.p ∧ G'.fb = G.fb ∧ G'.mb = G.mb ∧ G'.cap = G.cap ∧ G'.hits = G.hits ∧ G'.misses = G.misses ∧ G'.m = G.m ∧ G'.L.length = G.L.length ∧ PoolRep wr G' ∧ Turned G.own w wr ∧ (∀ a L h, Sweep G'.L G'.hand a L h → Sweep G.L G.hand a L h)

set_option maxRecDepth 100000 in
set_option maxHeartbeats 2000000 in
theorem place_c (G : PoolG) (w : World) (h : PoolRep w G) : Calls Try.prog 26 #[.pointer (some ⟨G.p, 0, none⟩)] w (Placed w G) := by
  have c0 : w.cell? ⟨G.p, 0, none⟩ = some (.slice (some ⟨G.fb, 0, none⟩) G.L.length G.cap) := by rw [h.bp.cell]; rfl
  have HH := Lib.hid h
  clear h
  by_cases hneg : 0 ≤ firstEmpty G.L
  · obtain ⟨i, f, hi, hf, _⟩ := firstEmpty_lt hneg
    go_enter Try.func26, Try.ntmps26
    go_wp2_with fail
    refine (index_c G.fb G.cap G.C G.L _ HH.out.bf HH.out.row HH.out.len).mono ?_; rintro e w1 ⟨rfl, h1⟩
    have H1 := Lib.hid h1
    have HI := Lib.hid hi
    clear h1 hi hf
    go_wp2_with fail
    go_ret
    exact ⟨i, G.L, G.C, G.hand, by rw [← HI.out]; rfl, .inl ⟨HI.out, rfl, rfl⟩, HH.out.below H1.out, Turned.of_below H1.out⟩
  · have hm1 := firstEmpty_ge G.L
    have he : firstEmpty G.L = -1 := by omega
    go_enter Try.func26, Try.ntmps26
    go_wp2_with fail
    refine (index_c G.fb G.cap G.C G.L _ HH.out.bf HH.out.row HH.out.len).mono ?_; rintro e w1 ⟨rfl, h1⟩
    rw [he]
    have HE := Lib.hid he
    have H1 := Lib.hid h1
    clear h1 he hneg hm1
    go_wp2_with fail
    go_loopg [4] (marks G.L) (fun kq _v4 wr => Mid w G kq wr)
    case atStart => exact ⟨G, rfl, rfl, rfl, rfl, rfl, rfl, rfl, rfl, rfl, HH.out.below H1.out, Turned.of_below H1.out, fun a L h k => k⟩
    case round =>
      obtain ⟨G', e1, e2, e3, e4, e5, e6, e7, e8, e9, hP, hT, hS⟩ := hrel
      have hhand := hP.hand
      obtain ⟨f, hf⟩ : ∃ f, G'.L[G'.hand]? = some f := ⟨_, List.getElem?_eq_getElem hhand⟩
      obtain ⟨r0, r1, r2⟩ := hP.row _ f hf
      have b0 : wr.cell? ⟨G.p, 0, none⟩ = some (.slice (some ⟨G.fb, 0, none⟩) G'.L.length G'.cap) := by rw [← e2, ← e3, hP.bp.cell]; rfl
      have b1 : wr.cell? ⟨G.p, 1, none⟩ = some (.int .i64 G'.hand) := by rw [← e2, hP.bp.cell]; rfl
      have b2 : wr.cell? ⟨G.fb, G'.hand * 3 + 1, none⟩ = some (.bool f.mark) := by rw [← e3, hP.bf.cell]; exact r1
      have g1 : wr.frozen? ⟨G.p, 1, none⟩ = false := by rw [← e2]; exact hP.bp.frozen 1
      have g2 : wr.frozen? ⟨G.fb, G'.hand * 3 + 1, none⟩ = false := by rw [← e3]; exact hP.bf.frozen _
      have hne : G.p ≠ G.fb := HH.out.p_ne_fb
      have hlen := hP.len
      have hpos := hP.pos
      have hm := Lib.hid (place_mod G')
      have hi0 : (0 : Int) ≤ G'.hand := by omega
      have hi1 : (G'.hand : Int) < G'.L.length := by omega
      have hz : ((G'.L.length : Int) == 0) = false := beq_eq_false_iff_ne.mpr (by omega)
      cases hmk : f.mark with
      | true =>
        rw [hmk] at b2
        have E := Lib.hid (And.intro e1 (And.intro e2 (And.intro e3 (And.intro e4 (And.intro e5 (And.intro e6 (And.intro e7 (And.intro e8 e9))))))))
        have HR := Lib.hid (And.intro hP (And.intro hT hS))
        have HF := Lib.hid (And.intro hf hmk)
        clear e1 e2 e3 e4 e5 e6 e7 e8 e9 hP hT hS hf hmk r0 r1 r2 c0
        go_wp2_with fail
        rw [hm.out]
        obtain ⟨e1, e2, e3, e4, e5, e6, e7, e8, e9⟩ := E.out
        obtain ⟨hP, hT, hS⟩ := HR.out
        obtain ⟨hf, hmk⟩ := HF.out
        have hk := marks_set hf hmk
        have hh : (G'.hand + 1) % G'.L.length < G'.L.length := Nat.mod_lt _ hP.pos
        obtain ⟨hP2, hT2⟩ := sweep_world hP hf _ hh
        go_roundg (marks (G'.L.set G'.hand { f with mark := false }))
        case measure => omega
        case rel =>
          rw [← e2, ← e3]
          refine ⟨G'.remark G'.hand f false _ G'.hits, rfl, e2, e3, e4, e5, e6, e7, e8, ?_, hP2, hT.trans hT2 ?_, ?_⟩
          · show (G'.L.set _ _).length = _; rw [List.length_set]; exact e9
          · intro k _ hk; unfold PoolG.own at *; rw [e2, e3, e4] at hk; exact hk
          · intro a L h k; exact hS a L h (Sweep.go hf hmk k)
      | false =>
        rw [hmk] at b2
        have E := Lib.hid (And.intro e1 (And.intro e2 (And.intro e3 (And.intro e4 (And.intro e5 (And.intro e6 (And.intro e7 (And.intro e8 e9))))))))
        have HR := Lib.hid (And.intro hP (And.intro hT hS))
        have HF := Lib.hid (And.intro hf hmk)
        clear e1 e2 e3 e4 e5 e6 e7 e8 e9 hP hT hS hf hmk r0 r1 r2 c0
        go_wp2_with fail
        go_ret
        rw [hm.out]
        obtain ⟨e1, e2, e3, e4, e5, e6, e7, e8, e9⟩ := E.out
        obtain ⟨hP, hT, hS⟩ := HR.out
        obtain ⟨hf, hmk⟩ := HF.out
        have hh : (G'.hand + 1) % G'.L.length < G'.L.length := Nat.mod_lt _ hP.pos
        obtain ⟨hP2, hT2⟩ := hand_world hP _ hh
        rw [← e2]
        refine ⟨G'.hand, G'.L, G'.C, _, rfl, .inr ⟨HE.out, hS _ _ _ (Sweep.stop hf hmk)⟩, ?_, hT.trans hT2 ?_⟩
        · have : G.swept G'.L G'.C ((G'.hand + 1) % G'.L.length) = { G' with hand := (G'.hand + 1) % G'.L.length } := by
            cases G; cases G'; simp only [PoolG.swept] at *; subst e2; subst e3; subst e4; subst e5; subst e6; subst e7; subst e8; rfl
          rw [this]; exact hP2
        · intro k _ hk; unfold PoolG.own at *; rw [e2, e3, e4] at hk; exact hk
end Go.Proofs.Ytliakkpmmmgmhaa
