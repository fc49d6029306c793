/- The pool of two frames that the statements begin with: it does as it should. -/
import Derived.Test.YtliakkpmmmgmhaaPool6
import Derived.Lib.SlBytesConst
namespace Go.Proofs.Ytliakkpmmmgmhaa
open Go.RowKit

theorem PoolRep.get_no {w : World} {G : PoolG} (h : PoolRep w G) {n : Int} (hn : ∀ f ∈ G.L, f.page ≠ n) : mget G.m n = none := by
  cases hg : mget G.m n with
  | none => rfl
  | some v =>
    obtain ⟨i, f, hf, hp, _⟩ := (h.idx n v).1 hg
    exact absurd hp (hn f (List.mem_of_getElem? hf))
theorem PoolRep.get_yes {w : World} {G : PoolG} (h : PoolRep w G) {n : Int} {i : Nat} {f : Frm} (hf : G.L[i]? = some f) (hp : f.page = n) (h0 : 0 ≤ n) : mget G.m n = some (.int .i64 i) :=
  (h.idx n _).2 ⟨i, f, hf, hp, h0, rfl⟩
/-- A new page takes the first empty frame, if there is one. -/
theorem PutAt.empty {G : PoolG} {n : Int} {a : Nat} {gone : Int} {L : List Frm} {h : Nat} {f : Frm} {m : List (Int × Value)} (k : PutAt G n a gone L h f m) (hn : mget G.m n = none) {i : Nat} (hi : firstEmpty G.L = i) :
    a = i ∧ L = G.L ∧ h = G.hand ∧ gone = f.page ∧ G.L[i]? = some f := by
  obtain ⟨hf, h1 | ⟨_, h2, h3, _⟩⟩ := k
  · rw [hn] at h1; cases h1.1
  · rcases h3 with ⟨h4, h5, h6⟩ | ⟨h4, _⟩
    · have : a = i := by omega
      subst this; subst h5
      exact ⟨rfl, rfl, h6, h2, hf⟩
    · omega
/-- A new page takes the frame at which the sweep ends, if there is no empty one. -/
theorem PutAt.full {G : PoolG} {n : Int} {a : Nat} {gone : Int} {L : List Frm} {h : Nat} {f : Frm} {m : List (Int × Value)} (k : PutAt G n a gone L h f m) (hn : mget G.m n = none) (hi : firstEmpty G.L = -1) :
    Sweep G.L G.hand a L h ∧ gone = f.page ∧ L[a]? = some f := by
  obtain ⟨hf, h1 | ⟨_, h2, h3, _⟩⟩ := k
  · rw [hn] at h1; cases h1.1
  · rcases h3 with ⟨h4, h5, h6⟩ | ⟨_, h4⟩
    · omega
    · exact ⟨h4, h2, hf⟩
/-- A page that is at hand takes its own frame. -/
theorem PutAt.same {G : PoolG} {n : Int} {a : Nat} {gone : Int} {L : List Frm} {h : Nat} {f : Frm} {m : List (Int × Value)} (k : PutAt G n a gone L h f m) {i : Nat} (hn : mget G.m n = some (.int .i64 i)) :
    a = i ∧ L = G.L ∧ h = G.hand ∧ gone = -1 ∧ G.L[i]? = some f := by
  obtain ⟨hf, ⟨h1, h2, h3, h4, _⟩ | ⟨h1, _⟩⟩ := k
  · rw [hn] at h1; injection h1 with h1; injection h1 with _ h1
    have : a = i := by omega
    subst this; subst h3
    exact ⟨rfl, rfl, h4, h2, hf⟩
  · rw [hn] at h1; cases h1
theorem own_new {w0 w w' : World} {G : PoolG} (hb : Below w0.heap.size w0 w) (hp : w0.heap.size ≤ G.p) (hf : w0.heap.size ≤ G.fb) (hm : w0.heap.size ≤ G.mb) (k : Turned G.own w w') : Below w0.heap.size w0 w' :=
  hb.trans ⟨k.os, k.tape, k.output, k.size, fun i hi => k.block i (Nat.lt_of_lt_of_le hi hb.size) (by unfold PoolG.own; omega)⟩

/-- Bytes in a block that has just been made. -/
theorem Bs.made (t : TypeId) (w : World) (l : List UInt8) (C : Array Value) (fr : Nat × Nat) (hC : C = (u8s l).toArray) (hl : l.length ≤ maxLen) {n : Nat} (hn : n = l.length) : Bs t (w.alloc (.cells C t fr)) (some ⟨w.heap.size, 0, none⟩) n n l := by
  subst hC; subst hn
  refine ⟨rfl, Nat.le_refl _, hl, .inr ⟨w.heap.size, 0, (u8s l).toArray, fr, rfl, heap_alloc_new w _, fun j u hu => ?_⟩⟩
  simpa using hu
def F1 (n : Int) (A : Option Addr) (k c : Nat) (l : List UInt8) : Frm := { page := n, mark := true, A := A, n := k, c := c, l := l }

set_option maxRecDepth 100000 in
set_option maxHeartbeats 4000000 in
theorem poolLives_c (w : World) : Calls Try.prog 8 #[] w fun e w' => e = .returned (.bool true) ∧ Below w.heap.size w w' := by
  have kc := fun (w : World) (C : Array Value) (n c : Nat) => Lib.run_convert_bytes_const (P := Try.prog) w 31 5 C n c Try.underlying31 Try.underlying5
  go_enter Try.func8, Try.ntmps8
  go_wp2_with fail
  refine (new_c 2 _ (by omega) (by omega)).mono ?_
  rintro e w1 ⟨p, fb, mb, cap, C, rfl, hP, hB, hp, hf, hm⟩
  have H1 := Lib.hid (And.intro hP (And.intro hB (And.intro hp (And.intro hf hm))))
  clear hP hB hp hf hm
  go_wp2_with fail
  -- Put(1)
  have hP1 := H1.out.1.alloc (.cells #[Value.int .u8 97] 5 (1, 2))
  refine (put_c _ 1 _ 1 1 [97] _ hP1 (by omega) (by omega) (Bs.made 5 w1 [97] _ _ rfl (by simp [maxLen]) rfl) (by omega)).mono ?_
  rintro e w2 ⟨a, gone, L, C2, h, f, m, A1, k1, c1, rfl, hat, hP2, hT2, _⟩
  obtain ⟨ha, hL, hh, hg, hf⟩ := hat.empty (hP1.get_no (by intro f hf; have := (List.mem_replicate.1 hf).2; subst this; decide)) (i := 0) (by rfl)
  subst ha; subst hL; subst hh
  simp [emptyG] at hf
  subst hf
  subst hg
  have hP2' : PoolRep w2 { p := p, fb := fb, mb := mb, cap := cap, C := putF C2 0 (F1 1 A1 k1 c1 [97]), L := [F1 1 A1 k1 c1 [97], noFrm], hand := 0, hits := 0, misses := 0, m := m } := hP2
  have hB2 := own_new (H1.out.2.1.alloc H1.out.2.1.size (.cells #[Value.int .u8 97] 5 (1, 2))) H1.out.2.2.1 H1.out.2.2.2.1 H1.out.2.2.2.2 hT2
  have H2 := Lib.hid (And.intro hP2' hB2)
  clear hP1 hat hP2 hP2' hT2 hB2
  go_wp2_with fail
  -- Put(2)
  have hP3 := H2.out.1.alloc (.cells #[Value.int .u8 98] 5 (1, 2))
  refine (put_c _ 2 _ 1 1 [98] _ hP3 (by omega) (by omega) (Bs.made 5 w2 [98] _ _ rfl (by simp [maxLen]) rfl) (by omega)).mono ?_
  rintro e w3 ⟨a, gone, L, C3, h, f, m3, A2, k2, c2, rfl, hat, hP4, hT3, _⟩
  obtain ⟨ha, hL, hh, hg, hf⟩ := hat.empty (hP3.get_no (by
    intro f hf
    simp at hf
    rcases hf with rfl | rfl
    · show (1 : Int) ≠ 2; decide
    · show (-1 : Int) ≠ 2; decide)) (i := 1) (by rfl)
  subst ha; subst hL; subst hh
  simp at hf
  subst hf
  subst hg
  have hP4' : PoolRep w3 { p := p, fb := fb, mb := mb, cap := cap, C := putF C3 1 (F1 2 A2 k2 c2 [98]), L := [F1 1 A1 k1 c1 [97], F1 2 A2 k2 c2 [98]], hand := 0, hits := 0, misses := 0, m := m3 } := hP4
  have hB3 := own_new (H2.out.2.alloc H2.out.2.size (.cells #[Value.int .u8 98] 5 (1, 2))) H1.out.2.2.1 H1.out.2.2.2.1 H1.out.2.2.2.2 hT3
  have H3 := Lib.hid (And.intro hP4' hB3)
  clear hP3 hat hP4 hP4' hT3 hB3
  go_wp2_with fail
  -- Put(3)
  have hP5 := H3.out.1.alloc (.cells #[Value.int .u8 99] 5 (1, 2))
  refine (put_c _ 3 _ 1 1 [99] _ hP5 (by omega) (by omega) (Bs.made 5 w3 [99] _ _ rfl (by simp [maxLen]) rfl) (by omega)).mono ?_
  rintro e w4 ⟨a, gone, L, C4, h, f, m4, A3, k3, c3, rfl, hat, hP6, hT4, _⟩
  obtain ⟨hs, hg, hf⟩ := hat.full (hP5.get_no (by
    intro f hf
    simp at hf
    rcases hf with rfl | rfl
    · show (1 : Int) ≠ 3; decide
    · show (2 : Int) ≠ 3; decide)) (by rfl)
  obtain ⟨rfl, hL⟩ : a = 0 ∧ L = [{ F1 1 A1 k1 c1 [97] with mark := false }, { F1 2 A2 k2 c2 [98] with mark := false }] := by
    clear hat hP6 hg hf
    cases hs with
    | stop h1 h2 => simp at h1; subst h1; cases h2
    | go h1 h2 hs =>
      simp at h1; subst h1
      cases hs with
      | stop h3 h4 => simp at h3; subst h3; cases h4
      | go h3 h4 hs =>
        simp at h3; subst h3
        cases hs with
        | stop h5 h6 => exact ⟨by simp, by simp⟩
        | go h5 h6 hs => simp at h5; subst h5; cases h6
  subst hL
  simp at hf
  subst hf
  subst hg
  have hP6' : PoolRep w4 { p := p, fb := fb, mb := mb, cap := cap, C := putF C4 0 (F1 3 A3 k3 c3 [99]), L := [F1 3 A3 k3 c3 [99], { F1 2 A2 k2 c2 [98] with mark := false }], hand := h, hits := 0, misses := 0, m := m4 } := hP6
  have hB4 := own_new (H3.out.2.alloc H3.out.2.size (.cells #[Value.int .u8 99] 5 (1, 2))) H1.out.2.2.1 H1.out.2.2.2.1 H1.out.2.2.2.2 hT4
  have H4 := Lib.hid (And.intro hP6' hB4)
  have e1 : (F1 1 A1 k1 c1 [97]).page = 1 := rfl
  clear hP5 hat hP6 hP6' hT4 hB4 hs kc
  go_wp2_with fail
  -- Get(2)
  refine (get_hit _ 2 1 { F1 2 A2 k2 c2 [98] with mark := false } w4 H4.out.1 (H4.out.1.get_yes (i := 1) rfl rfl (by omega)) rfl).mono ?_
  rintro e w5 ⟨v, rfl, hfr, hP7, hT5⟩
  obtain ⟨A5, n5, c5, rfl, hb5, _⟩ := hfr
  have hB5 := own_new H4.out.2 H1.out.2.2.1 H1.out.2.2.2.1 H1.out.2.2.2.2 hT5
  have H5 := Lib.hid (And.intro hP7 (And.intro hB5 hb5))
  clear hP7 hT5 hB5 hb5
  go_wp2_with fail
  -- Get(1)
  have hmiss := get_miss _ 1 w5 H5.out.1 (H5.out.1.get_no (by
    intro f hf
    simp [PoolG.hit, PoolG.remark] at hf
    rcases hf with rfl | rfl
    · show (3 : Int) ≠ 1; decide
    · show (2 : Int) ≠ 1; decide))
  refine hmiss.mono ?_
  clear hmiss
  rintro e w6 ⟨rfl, hP8, hT6⟩
  have hB6 := own_new H5.out.2.1 H1.out.2.2.1 H1.out.2.2.2.1 H1.out.2.2.2.2 hT6
  have hb6 := H5.out.2.2.turned hT6 H5.out.1.not8
  have hstr := hb6.toString (P := Try.prog) (src := 31) (dst := 9) Try.underlying31 Try.underlying5 Try.underlying9
  have H6 := Lib.hid hB6
  clear hP8 hT6 hB6 hb6
  go_wp2
  go_ret
  exact ⟨rfl, H6.out⟩
end Go.Proofs.Ytliakkpmmmgmhaa
