/- Contracts of CostRises and of its closure. -/
import Derived.Test.YtiaiogmicllllaaCx3
namespace Go.Proofs.Ytiaiogmicllllaa.Cx
open Go.RowKit Go.Proofs.YtiaiogmicllllaaW.PrintWords Go.Proofs.YtiaiogmicllllaaW.PrintLast Go.Proofs.YtiaiogmicllllaaW.PrintMore Go.Proofs.Ytiaiogmicllllaa.PlainC
attribute [local go_sem] max2_int min2_int max_two min_two max_three min_three max_four min_four   -- for this text's walks alone

theorem add2_g (x y : Int) (b : Nat) (w : World) (h0 : w.cell? ⟨b, 0, none⟩ = some (.int .i64 x)) (h1 : w.cell? ⟨b, 1, none⟩ = some (.int .i64 y)) : Calls Try.prog 11 #[.slice (some ⟨b, 0, none⟩) 2 2] w (Tells w (.int .i64 (add x y))) := by
  refine (add_c 2 (two x y) _ 2 _ (by omega) ?_).mono ?_
  · intro k hk
    match k, hk with
    | 0, _ => exact h0
    | 1, _ => exact h1
  · rintro e w' ⟨rfl, h⟩
    exact ⟨by rw [sumK_two], h⟩

/-- A row of eight cells that may be written. -/
def Free8 (B : Nat) (w : World) : Prop := ∃ cs : Array Value, cs.size = 8 ∧ w.heap[B]? = some (.cells cs 34 (0, 0))
theorem Free8.set {B : Nat} {w : World} (h : Free8 B w) (i : Nat) (v : Value) : Free8 B (w.setCell ⟨B, i, none⟩ v) := by
  obtain ⟨cs, h1, h2⟩ := h
  exact ⟨_, by simpa using h1, heap_setCell_same w B i cs 34 v h2⟩
theorem Free8.cells {B : Nat} {w : World} (h : Free8 B w) : ∃ f : Nat → Value, ∀ i, i < 8 → w.cell? ⟨B, i, none⟩ = some (f i) := by
  obtain ⟨cs, h1, h2⟩ := h
  refine ⟨fun i => cs.getD i undef, fun i hi => ?_⟩
  simp [World.cell?, h2, Array.getD, h1, hi]
theorem Free8.frozen {B : Nat} {w : World} (h : Free8 B w) (i : Nat) : w.frozen? ⟨B, i, none⟩ = false := by
  obtain ⟨cs, h1, h2⟩ := h
  simp [World.frozen?, h2]

/-- What the region of eight costs keeps. -/
def Rest8 (w : World) (w' : World) : Prop := Below w.heap.size w w' ∧ Free8 (w.heap.size + 1) w' ∧ w.heap.size + 2 ≤ w'.heap.size
abbrev Kept8 (w : World) (ac : Addr) (x0 x1 x2 c : Int) (w' : World) : Prop :=
  w'.cell? ⟨w.heap.size, 0, none⟩ = some (.int .i64 x0) ∧ w'.cell? ⟨w.heap.size, 1, none⟩ = some (.int .i64 x1) ∧ w'.cell? ⟨w.heap.size, 2, none⟩ = some (.int .i64 x2) ∧ w'.cell? ac = some (.int .i64 c) ∧ Rest8 w w'
section
variable {w : World} {ac : Addr} {x0 x1 x2 c : Int} {w1 w2 : World}
theorem Kept8.step (h : Kept8 w ac x0 x1 x2 c w1) (k : Below w1.heap.size w1 w2) : Kept8 w ac x0 x1 x2 c w2 := by
  obtain ⟨h0, h1, h2, h3, hb, hf, hs⟩ := h
  refine ⟨pw_cell_below k h0, pw_cell_below k h1, pw_cell_below k h2, pw_cell_below k h3, hb.trans (k.mono (by omega)), ?_, Nat.le_trans hs k.size⟩
  obtain ⟨cs, h4, h5⟩ := hf
  exact ⟨cs, h4, by rw [k.block _ (by omega)]; exact h5⟩
theorem Kept8.drew (h : Kept8 w ac x0 x1 x2 c w1) : Kept8 w ac x0 x1 x2 c w1.drew := h.step (Below.refl _ _).drew
theorem Kept8.drewAlloc (h : Kept8 w ac x0 x1 x2 c w1.drew) (o : Obj) : Kept8 w ac x0 x1 x2 c (w1.alloc o).drew := h.step ((Below.refl _ _).alloc (Nat.le_refl _) o)
theorem Kept8.set (h : Kept8 w ac x0 x1 x2 c w1) (hac : ac.block < w.heap.size) (i : Nat) (v : Value) : Kept8 w ac x0 x1 x2 c (w1.setCell ⟨w.heap.size + 1, i, none⟩ v) := by
  obtain ⟨h0, h1, h2, h3, hb, hf, hs⟩ := h
  refine ⟨?_, ?_, ?_, ?_, hb.setCell (by show _ ≤ _ + 1; omega) _, hf.set _ _, by simpa using hs⟩
  all_goals rw [World.cell?_setCell_other]
  all_goals first | assumption | (intro e; rw [← e] at hac; exact absurd hac (by show ¬ (_ + 1 < _); omega)) | (intro e; injection e; omega)
end

set_option maxRecDepth 100000 in
set_option maxHeartbeats 8000000 in
theorem eight_c (x0 x1 x2 c : Int) (ac : Addr) (w : World) (hc : w.cell? ac = some (.int .i64 c)) :
    Calls Try.prog 31 #[.agg #[.int .i64 x0, .int .i64 x1, .int .i64 x2], .pointer (some ac)] w
      (Tells w (.agg #[.int .i64 (add x0 x1), .int .i64 (mul x0 x1), .int .i64 (part x0 x1), .int .i64 (seq x0 c), .int .i64 (range x0), .int .i64 (loop x0 x1 x2), .int .i64 (loop x0 x1 (range x2)), .int .i64 (sorts x0 x1)])) := by
  have hac := World.block_lt_of_cell? w _ hc
  go_enter Try.func31, Try.ntmps31
  go_wp2_with fail
  obtain ⟨W, hW⟩ : ∃ W : World, ((w.alloc (Obj.cells #[Value.int IntKind.i64 x0, Value.int IntKind.i64 x1, Value.int IntKind.i64 x2] 31)).alloc
      (Obj.cells #[Value.int IntKind.i64 0, Value.int IntKind.i64 0, Value.int IntKind.i64 0, Value.int IntKind.i64 0, Value.int IntKind.i64 0, Value.int IntKind.i64 0, Value.int IntKind.i64 0, Value.int IntKind.i64 0] 34)) = W := ⟨_, rfl⟩
  have S0 : Kept8 w ac x0 x1 x2 c W := by
    subst hW
    refine ⟨by simp, by simp, by simp, ?_, ?_, ?_, ?_⟩
    · exact pw_cell_below (((Below.refl _ _).alloc (Nat.le_refl _) _).alloc (by simp) _) hc
    · exact (((Below.refl _ _).alloc (Nat.le_refl _) _).alloc (by simp) _)
    · exact ⟨_, (rfl : (#[Value.int IntKind.i64 0, Value.int IntKind.i64 0, Value.int IntKind.i64 0, Value.int IntKind.i64 0, Value.int IntKind.i64 0, Value.int IntKind.i64 0, Value.int IntKind.i64 0, Value.int IntKind.i64 0] : Array Value).size = 8), by show ((w.alloc _).heap.push _)[w.heap.size + 1]? = _; rw [Array.getElem?_push, if_pos (by simp)]⟩
    · simp
  rw [hW]
  have HC := Lib.hid hc
  clear hW hc
  go_region_held3 (fun w' => Kept8 w ac x0 x1 x2 c w')
    (first | (with_reducible exact Kept8.drew (by assumption)) | (with_reducible exact Kept8.drewAlloc (by assumption) _) | (with_reducible exact Kept8.step (by assumption) (by assumption)) | ((repeat (with_reducible refine Kept8.set ?_ (by assumption) _ _)); (with_reducible assumption)))
    (first
      | (go_at_call 11; refine (add2_g _ _ _ _ (by simp; rfl) (by simp; rfl)).mono ?_; rintro e w' ⟨rfl, hb⟩)
      | (go_at_call 13; refine (mul_c _ _ _).mono ?_; rintro e w' ⟨rfl, hb⟩)
      | (go_at_call 19; refine (part_c _ _ _).mono ?_; rintro e w' ⟨rfl, hb⟩)
      | (go_at_call 17; refine (seq_c _ _ _).mono ?_; rintro e w' ⟨rfl, hb⟩)
      | (go_at_call 29; refine (range_c _ _).mono ?_; rintro e w' ⟨rfl, hb⟩)
      | (go_at_call 23; refine (loop_c _ _ _ _).mono ?_; rintro e w' ⟨rfl, hb⟩)
      | (go_at_call 25; refine (lookup_c _ _ _ _).mono ?_; rintro e w' ⟨rfl, hb⟩)
      | (go_at_call 27; refine (sort_c _ _ _).mono ?_; rintro e w' ⟨rfl, hb⟩; have hK8 := Kept8.step (by assumption) hb; obtain ⟨f8, hf8⟩ := hK8.2.2.2.2.2.1.cells; have g0 := hf8 0 (by omega); have g1 := hf8 1 (by omega); have g2 := hf8 2 (by omega); have g3 := hf8 3 (by omega); have g4 := hf8 4 (by omega); have g5 := hf8 5 (by omega); have g6 := hf8 6 (by omega); have g7 := hf8 7 (by omega); have gz := hK8.2.2.2.2.2.1.frozen; have hB8 : w.heap.size + 2 ≤ w'.heap.size := hK8.2.2.2.2.2.2; have z0 := gz 0; have z1 := gz 1; have z2 := gz 2; have z3 := gz 3; have z4 := gz 4; have z5 := gz 5; have z6 := gz 6; have z7 := gz 7; clear hf8 gz hK8))
  have hlast := Lib.hid ((‹Kept8 w ac x0 x1 x2 c _›).2.2.2.2.1)
  go_wp2
  exact bodyPost_ret (v := .agg #[.int .i64 (add x0 x1), .int .i64 (mul x0 x1), .int .i64 (part x0 x1), .int .i64 (seq x0 c), .int .i64 (range x0), .int .i64 (loop x0 x1 x2), .int .i64 (loop x0 x1 (range x2)), .int .i64 (sorts x0 x1)]) (by simp [results, Try.results31, go_sem, *]) rfl ⟨rfl, hlast.out⟩
end Go.Proofs.Ytiaiogmicllllaa.Cx
