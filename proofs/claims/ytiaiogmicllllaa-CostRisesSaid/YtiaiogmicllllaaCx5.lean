/- CostRises: the walk. -/
import Derived.Test.YtiaiogmicllllaaCx4
import Derived.Outline
namespace Go.Proofs.Ytiaiogmicllllaa.Cx
open Go.RowKit Go.Proofs.YtiaiogmicllllaaW.PrintWords Go.Proofs.YtiaiogmicllllaaW.PrintLast Go.Proofs.YtiaiogmicllllaaW.PrintMore Go.Proofs.Ytiaiogmicllllaa.PlainC
attribute [local go_sem] max2_int min2_int max_two min_two max_three min_three max_four min_four   -- for this text's walks alone

def rise (n k : Int) : Int := if n < 1152921504606846976 then n + k else n
/-- The row of the eight costs. -/
structure Row8 (w : World) (a : Nat) (x0 x1 x2 c : Int) : Prop where
  c0 : w.cell? ⟨a, 0, none⟩ = some (.int .i64 (add x0 x1))
  c1 : w.cell? ⟨a, 1, none⟩ = some (.int .i64 (mul x0 x1))
  c2 : w.cell? ⟨a, 2, none⟩ = some (.int .i64 (part x0 x1))
  c3 : w.cell? ⟨a, 3, none⟩ = some (.int .i64 (seq x0 c))
  c4 : w.cell? ⟨a, 4, none⟩ = some (.int .i64 (range x0))
  c5 : w.cell? ⟨a, 5, none⟩ = some (.int .i64 (loop x0 x1 x2))
  c6 : w.cell? ⟨a, 6, none⟩ = some (.int .i64 (loop x0 x1 (range x2)))
  c7 : w.cell? ⟨a, 7, none⟩ = some (.int .i64 (sorts x0 x1))
def f8 (x0 x1 x2 c : Int) : Nat → Int
  | 0 => add x0 x1
  | 1 => mul x0 x1
  | 2 => part x0 x1
  | 3 => seq x0 c
  | 4 => range x0
  | 5 => loop x0 x1 x2
  | 6 => loop x0 x1 (range x2)
  | _ => sorts x0 x1
theorem Row8.at {w : World} {a : Nat} {x0 x1 x2 c : Int} (h : Row8 w a x0 x1 x2 c) (i : Nat) (hi : i < 8) : w.cell? ⟨a, i, none⟩ = some (.int .i64 (f8 x0 x1 x2 c i)) := by
  match i, hi with
  | 0, _ => exact h.c0
  | 1, _ => exact h.c1
  | 2, _ => exact h.c2
  | 3, _ => exact h.c3
  | 4, _ => exact h.c4
  | 5, _ => exact h.c5
  | 6, _ => exact h.c6
  | 7, _ => exact h.c7
theorem part_bd (n t : Int) : 0 ≤ part n t ∧ part n t ≤ 4503599627370496 := by
  have hn := fit_bd n
  have ht := thou_bd t
  unfold part
  have h0 : 0 ≤ fit n * thou t := Int.mul_nonneg hn.1 ht.1
  have h1 : fit n * thou t ≤ 4503599627370496 * 1000 := Int.mul_le_mul hn.2 ht.2 ht.1 (by omega)
  omega
theorem part_mono (n t n' t' : Int) (h : n ≤ n') (k : t ≤ t') : part n t ≤ part n' t' := by
  have hn := fit_bd n
  have ht := thou_bd t
  have h1 := fit_mono n n' h
  have h2 : thou t ≤ thou t' := by
    unfold thou mx mn; repeat' split
    all_goals omega
  have h3 : fit n * thou t ≤ fit n' * thou t' := Int.mul_le_mul h1 h2 ht.1 (by omega)
  unfold part; omega
theorem mx1_mono (b b' : Int) (h : b ≤ b') : mx 1 b ≤ mx 1 b' := by
  unfold mx; repeat' split
  all_goals omega
theorem pages_mono (r r' c : Int) (h : r ≤ r') : pages r c ≤ pages r' c := by
  unfold pages
  have := mul_mono r (4 + 8 * colsOf c) r' (4 + 8 * colsOf c) h (Int.le_refl _)
  exact add_mono _ _ _ _ (Int.le_refl _) (by omega)
theorem range_mono (a b : Int) (h : a ≤ b) : range a ≤ range b := add_mono _ _ _ _ (Int.le_refl _) (mul_mono _ _ _ _ h (Int.le_refl _))
theorem loop_mono (a b c a' b' c' : Int) (h : a ≤ a') (k : b ≤ b') (l : c ≤ c') : loop a b c ≤ loop a' b' c' := add_mono _ _ _ _ h (mul_mono _ _ _ _ (mx1_mono _ _ k) l)
theorem f8_bd (x0 x1 x2 c : Int) (i : Nat) : 0 ≤ f8 x0 x1 x2 c i ∧ f8 x0 x1 x2 c i ≤ 4503599627370496 := by
  unfold f8; split
  · exact add_bd _ _
  · exact mul_bd _ _
  · exact part_bd _ _
  · exact add_bd _ _
  · exact add_bd _ _
  · exact add_bd _ _
  · exact add_bd _ _
  · exact add_bd _ _
theorem f8_mono (x0 x1 x2 m0 m1 m2 c : Int) (h0 : x0 ≤ m0) (h1 : x1 ≤ m1) (h2 : x2 ≤ m2) (i : Nat) : f8 x0 x1 x2 c i ≤ f8 m0 m1 m2 c i := by
  unfold f8; split
  · exact add_mono _ _ _ _ h0 h1
  · exact mul_mono _ _ _ _ h0 h1
  · exact part_mono _ _ _ _ h0 h1
  · exact add_mono _ _ _ _ (mul_mono _ _ _ _ (Int.le_refl _) (pages_mono _ _ _ h0)) h0
  · exact range_mono _ _ h0
  · exact loop_mono _ _ _ _ _ _ h0 h1 h2
  · exact loop_mono _ _ _ _ _ _ h0 h1 (range_mono _ _ h2)
  · exact add_mono _ _ _ _ h0 (mul_mono _ _ _ _ h1 (bits_mono _ _ h1))
theorem rise_le (n k : Int) (h : 0 ≤ k) : n ≤ rise n k := by unfold rise; split <;> omega
theorem cell_any {w : World} {p q : Addr} {x : Value} (h : ∃ v, w.cell? q = some v) : ∃ v', (w.setCell p x).cell? q = some v' := by
  obtain ⟨v, h⟩ := h; exact cell?_setCell_some h
theorem cell_keep {w : World} {p q : Addr} {x v : Value} (h : w.cell? q = some v) (hne : p ≠ q) : (w.setCell p x).cell? q = some v := by
  rw [World.cell?_setCell_other w p q x hne]; exact h
theorem cell_put {w : World} {q : Addr} {x : Value} (h : ∃ v, w.cell? q = some v) : (w.setCell q x).cell? q = some x := by
  obtain ⟨v, h⟩ := h; exact World.cell?_setCell_same w q x h
theorem Row8.set {w : World} {a : Nat} {x0 x1 x2 c : Int} (u : Nat → Value) (e0 : w.cell? ⟨a, 0, none⟩ = some (u 0)) (e1 : w.cell? ⟨a, 1, none⟩ = some (u 1)) (e2 : w.cell? ⟨a, 2, none⟩ = some (u 2)) (e3 : w.cell? ⟨a, 3, none⟩ = some (u 3)) (e4 : w.cell? ⟨a, 4, none⟩ = some (u 4)) (e5 : w.cell? ⟨a, 5, none⟩ = some (u 5)) (e6 : w.cell? ⟨a, 6, none⟩ = some (u 6)) (e7 : w.cell? ⟨a, 7, none⟩ = some (u 7)) : Row8 ((((((((w.setCell ⟨a, 0, none⟩ (.int .i64 (add x0 x1))).setCell ⟨a, 1, none⟩ (.int .i64 (mul x0 x1))).setCell ⟨a, 2, none⟩ (.int .i64 (part x0 x1))).setCell ⟨a, 3, none⟩ (.int .i64 (seq x0 c))).setCell ⟨a, 4, none⟩ (.int .i64 (range x0))).setCell ⟨a, 5, none⟩ (.int .i64 (loop x0 x1 x2))).setCell ⟨a, 6, none⟩ (.int .i64 (loop x0 x1 (range x2)))).setCell ⟨a, 7, none⟩ (.int .i64 (sorts x0 x1))) a x0 x1 x2 c := by
  constructor
  all_goals (repeat (first | (with_reducible refine cell_put ?_) | ((with_reducible refine cell_keep ?_ ?_); rotate_left; (focus (simp; done)))))
  all_goals (repeat (first | (with_reducible exact ⟨_, by assumption⟩) | (with_reducible refine cell_any ?_)))
theorem Row8.keep {w : World} {a : Nat} {x0 x1 x2 c : Int} (h : Row8 w a x0 x1 x2 c) (p : Addr) (hp : p.block ≠ a) (v : Value) : Row8 (w.setCell p v) a x0 x1 x2 c := by
  obtain ⟨h0, h1, h2, h3, h4, h5, h6, h7⟩ := h
  have key : ∀ i u, w.cell? ⟨a, i, none⟩ = some u → (w.setCell p v).cell? ⟨a, i, none⟩ = some u := fun i u h => cell_keep h (fun e => hp (by rw [e]))
  exact ⟨key _ _ h0, key _ _ h1, key _ _ h2, key _ _ h3, key _ _ h4, key _ _ h5, key _ _ h6, key _ _ h7⟩
theorem bcell {W w1 : World} (hb : Below W.heap.size W w1) : (∀ b o, b < W.heap.size → w1.cell? ⟨b, o, none⟩ = W.cell? ⟨b, o, none⟩) ∧ (∀ b o, b < W.heap.size → w1.frozen? ⟨b, o, none⟩ = W.frozen? ⟨b, o, none⟩) :=
  ⟨fun b o h => hb.cell (p := ⟨b, o, none⟩) h, fun b o h => hb.frozen (p := ⟨b, o, none⟩) h⟩
/-- What the region of two calls keeps. -/
abbrev Kept12 (l m q : Nat) (x0 x1 x2 m0 m1 m2 c : Int) (w' : World) : Prop :=
  w'.cell? ⟨l, 0, none⟩ = some (.int .i64 x0) ∧ w'.cell? ⟨l, 1, none⟩ = some (.int .i64 x1) ∧ w'.cell? ⟨l, 2, none⟩ = some (.int .i64 x2) ∧
  w'.cell? ⟨m, 0, none⟩ = some (.int .i64 m0) ∧ w'.cell? ⟨m, 1, none⟩ = some (.int .i64 m1) ∧ w'.cell? ⟨m, 2, none⟩ = some (.int .i64 m2) ∧ w'.cell? ⟨q, 0, none⟩ = some (.int .i64 c)
section
variable {l m q : Nat} {x0 x1 x2 m0 m1 m2 c : Int} {w1 w2 : World}
theorem Kept12.far {N : Nat} (hl : l < N) (hm : m < N) (hq : q < N) (h : Kept12 l m q x0 x1 x2 m0 m1 m2 c w1) (k : Below N w1 w2) : Kept12 l m q x0 x1 x2 m0 m1 m2 c w2 := by
  obtain ⟨h0, h1, h2, h3, h4, h5, h6⟩ := h
  exact ⟨(k.cell (p := ⟨l, 0, none⟩) hl).trans h0, (k.cell (p := ⟨l, 1, none⟩) hl).trans h1, (k.cell (p := ⟨l, 2, none⟩) hl).trans h2, (k.cell (p := ⟨m, 0, none⟩) hm).trans h3, (k.cell (p := ⟨m, 1, none⟩) hm).trans h4, (k.cell (p := ⟨m, 2, none⟩) hm).trans h5, (k.cell (p := ⟨q, 0, none⟩) hq).trans h6⟩
theorem Kept12.captured (h : Kept12 l m q x0 x1 x2 m0 m1 m2 c w1) : w1.cell? ⟨q, 0, none⟩ = some (.int .i64 c) := h.2.2.2.2.2.2
theorem Kept12.step (h : Kept12 l m q x0 x1 x2 m0 m1 m2 c w1) (k : Below w1.heap.size w1 w2) : Kept12 l m q x0 x1 x2 m0 m1 m2 c w2 := by
  obtain ⟨h0, h1, h2, h3, h4, h5, h6⟩ := h
  exact ⟨pw_cell_below k h0, pw_cell_below k h1, pw_cell_below k h2, pw_cell_below k h3, pw_cell_below k h4, pw_cell_below k h5, pw_cell_below k h6⟩
end

def row3 (a b c : Int) : Obj := .cells #[.int .i64 a, .int .i64 b, .int .i64 c] 31
/-- The block of m behind k rounds. -/
def Behind (w1 : World) (m0 m1 m2 : Int) (i : Value) (wr : World) : Prop :=
  (i = .int .i64 0 ∧ wr = w1.alloc (.cells #[.int .i64 0, .int .i64 0, .int .i64 0] 31)) ∨ (i = .int .i64 1 ∧ wr = w1.alloc (.cells #[.int .i64 m0, .int .i64 0, .int .i64 0] 31)) ∨
  (i = .int .i64 2 ∧ wr = w1.alloc (.cells #[.int .i64 m0, .int .i64 m1, .int .i64 0] 31)) ∨ (i = .int .i64 3 ∧ wr = w1.alloc (.cells #[.int .i64 m0, .int .i64 m1, .int .i64 m2] 31))
theorem rise_lt {n k : Int} (h : n < 1152921504606846976) : rise n k = n + k := if_pos h
theorem rise_ge {n k : Int} (h : 1152921504606846976 ≤ n) : rise n k = n := if_neg (by omega)

set_option maxRecDepth 100000 in
set_option maxHeartbeats 8000000 in
theorem rises_c (x0 x1 x2 y0 y1 y2 c : Int) (w : World)
    (hx : ∀ x, x = x0 ∨ x = x1 ∨ x = x2 → -9223372036854775808 ≤ x ∧ x ≤ 9223372036854775807) (hy : ∀ y, y = y0 ∨ y = y1 ∨ y = y2 → 0 ≤ y ∧ y ≤ 4294967295) :
    Calls Try.prog 7 #[.agg #[.int .i64 x0, .int .i64 x1, .int .i64 x2], .agg #[.int .u32 y0, .int .u32 y1, .int .u32 y2], .int .i64 c] w (Tells w (.bool true)) := by
  go_enter Try.func7, Try.ntmps7
  go_wp2_with fail
  refine (lives_c _).mono ?_; rintro e w1 ⟨rfl, h1⟩
  have h0 := (((Below.refl w.heap.size w).alloc (Nat.le_refl _) (Obj.cells #[.int .i64 x0, .int .i64 x1, .int .i64 x2] 31)).alloc (by simp) (Obj.cells #[.int .u32 y0, .int .u32 y1, .int .u32 y2] 33)).alloc (by simp; omega) (Obj.cells #[.int .i64 c] 3)
  have hB := Lib.hid (h0.trans (h1.mono (by simp; omega)))
  have hsz := h1.size
  simp only [World.size_alloc] at hsz
  have e0 : w1.heap[w.heap.size]? = some (Obj.cells #[.int .i64 x0, .int .i64 x1, .int .i64 x2] 31) := by
    rw [h1.block _ (by simp; omega), Below.heap_alloc _ _ _ (by simp; omega), Below.heap_alloc _ _ _ (by simp), heap_alloc_new]
  have e1 : w1.heap[w.heap.size + 1]? = some (Obj.cells #[.int .u32 y0, .int .u32 y1, .int .u32 y2] 33) := by
    have := heap_alloc_new (w.alloc (Obj.cells #[.int .i64 x0, .int .i64 x1, .int .i64 x2] 31)) (Obj.cells #[.int .u32 y0, .int .u32 y1, .int .u32 y2] 33)
    rw [h1.block _ (by simp), Below.heap_alloc _ _ _ (by simp)]; simpa using this
  have e2 : w1.heap[w.heap.size + 1 + 1]? = some (Obj.cells #[.int .i64 c] 3) := by
    have := heap_alloc_new ((w.alloc (Obj.cells #[.int .i64 x0, .int .i64 x1, .int .i64 x2] 31)).alloc (Obj.cells #[.int .u32 y0, .int .u32 y1, .int .u32 y2] 33)) (Obj.cells #[.int .i64 c] 3)
    rw [h1.block _ (by simp)]; simpa using this
  have E0 := Lib.hid e0
  have E1 := Lib.hid e1
  have E2 := Lib.hid e2
  clear e0 e1 e2 h0 h1
  have c0 : w1.cell? ⟨w.heap.size, 0, none⟩ = some (.int .i64 x0) := by simp [World.cell?, E0.out]
  have c1 : w1.cell? ⟨w.heap.size, 1, none⟩ = some (.int .i64 x1) := by simp [World.cell?, E0.out]
  have c2 : w1.cell? ⟨w.heap.size, 2, none⟩ = some (.int .i64 x2) := by simp [World.cell?, E0.out]
  have z0 : w.heap.size < w1.heap.size := by omega
  have z1 : w.heap.size + 1 < w1.heap.size := by omega
  have z2 : w.heap.size + 1 + 1 < w1.heap.size := by omega
  clear hsz
  obtain ⟨hxl0, hxh0⟩ := hx x0 (by simp)
  obtain ⟨hxl1, hxh1⟩ := hx x1 (by simp)
  obtain ⟨hxl2, hxh2⟩ := hx x2 (by simp)
  obtain ⟨hyl0, hyh0⟩ := hy y0 (by simp)
  obtain ⟨hyl1, hyh1⟩ := hy y1 (by simp)
  obtain ⟨hyl2, hyh2⟩ := hy y2 (by simp)
  clear hx hy
  have d0 : w1.cell? ⟨w.heap.size + 1, 0, none⟩ = some (.int .u32 y0) := by simp [World.cell?, E1.out]
  have d1 : w1.cell? ⟨w.heap.size + 1, 1, none⟩ = some (.int .u32 y1) := by simp [World.cell?, E1.out]
  have d2 : w1.cell? ⟨w.heap.size + 1, 2, none⟩ = some (.int .u32 y2) := by simp [World.cell?, E1.out]
  have i0 : ∀ w, (Instr.index 31 (.agg #[.int .i64 x0, .int .i64 x1, .int .i64 x2]) (.int .i64 0)).run Try.prog w = .ok (.int .i64 x0) w := fun _ => by kernel_rfl
  have i1 : ∀ w, (Instr.index 31 (.agg #[.int .i64 x0, .int .i64 x1, .int .i64 x2]) (.int .i64 1)).run Try.prog w = .ok (.int .i64 x1) w := fun _ => by kernel_rfl
  have i2 : ∀ w, (Instr.index 31 (.agg #[.int .i64 x0, .int .i64 x1, .int .i64 x2]) (.int .i64 2)).run Try.prog w = .ok (.int .i64 x2) w := fun _ => by kernel_rfl
  go_wp2_with fail
  go_loopw [17] (fun i wr => Behind w1 (rise x0 y0) (rise x1 y1) (rise x2 y2) i wr) (fun i _ => 3 - (intOf i).toNat)
  case atStart => exact Or.inl ⟨rfl, rfl⟩
  case round =>
    rcases hrel with ⟨rfl, rfl⟩ | ⟨rfl, rfl⟩ | ⟨rfl, rfl⟩ | ⟨rfl, rfl⟩
    · go_wp2_with fail
      · have hlt : x0 < 1152921504606846976 := by assumption
        go_roundw
        case rel => exact Or.inr (Or.inl ⟨rfl, by rw [rise_lt hlt]⟩)
        case measure => simp [intOf]
      · have hge : 1152921504606846976 ≤ x0 := by assumption
        go_roundw
        case rel => exact Or.inr (Or.inl ⟨rfl, by rw [rise_ge hge]⟩)
        case measure => simp [intOf]
    · go_wp2_with fail
      · have hlt : x1 < 1152921504606846976 := by assumption
        go_roundw
        case rel => exact Or.inr (Or.inr (Or.inl ⟨rfl, by rw [rise_lt hlt]⟩))
        case measure => simp [intOf]
      · have hge : 1152921504606846976 ≤ x1 := by assumption
        go_roundw
        case rel => exact Or.inr (Or.inr (Or.inl ⟨rfl, by rw [rise_ge hge]⟩))
        case measure => simp [intOf]
    · go_wp2_with fail
      · have hlt : x2 < 1152921504606846976 := by assumption
        go_roundw
        case rel => exact Or.inr (Or.inr (Or.inr ⟨rfl, by rw [rise_lt hlt]⟩))
        case measure => simp [intOf]
      · have hge : 1152921504606846976 ≤ x2 := by assumption
        go_roundw
        case rel => exact Or.inr (Or.inr (Or.inr ⟨rfl, by rw [rise_ge hge]⟩))
        case measure => simp [intOf]
    · clear i0 i1 i2
      have r0 := rise_le x0 y0 hyl0
      have r1 := rise_le x1 y1 hyl1
      have r2 := rise_le x2 y2 hyl2
      generalize rise x0 y0 = m0 at *
      generalize rise x1 y1 = m1 at *
      generalize rise x2 y2 = m2 at *
      obtain ⟨W, hW⟩ : ∃ W : World, w1.alloc (Obj.cells #[.int .i64 m0, .int .i64 m1, .int .i64 m2] 31) = W := ⟨_, rfl⟩
      obtain ⟨M, hM⟩ : ∃ M : Nat, w1.heap.size = M := ⟨_, rfl⟩
      have S0 : Kept12 w.heap.size M (w.heap.size + 1 + 1) x0 x1 x2 m0 m1 m2 c W := by
        subst hW; subst hM
        have e := (Below.refl w1.heap.size w1).alloc (Nat.le_refl _) (Obj.cells #[.int .i64 m0, .int .i64 m1, .int .i64 m2] 31)
        exact ⟨pw_cell_below e c0, pw_cell_below e c1, pw_cell_below e c2, by simp, by simp, by simp, pw_cell_below e (by simp [World.cell?, E2.out])⟩
      have HB : Hid (Below w.heap.size w W) := by subst hW; exact hB.out.alloc hB.out.size _
      rw [hW, hM]
      rw [hM] at z0 z1 z2
      have hlW : M < W.heap.size := World.block_lt_of_cell? W _ S0.2.2.2.1
      have n1 : w.heap.size < W.heap.size := by omega
      have n3 : w.heap.size + 1 + 1 < W.heap.size := by omega
      have n2 := hlW
      have R := Lib.hid (f8_mono x0 x1 x2 m0 m1 m2 c r0 r1 r2)
      clear r0 r1 r2
      clear hW hM hB E0 E1 E2 c0 c1 c2 d0 d1 d2 hxl0 hxl1 hxl2 hxh0 hxh1 hxh2 hyl0 hyl1 hyl2 hyh0 hyh1 hyh2
      go_wp2_with fail
      go_cut [11, 12] (fun u v wc => ∃ a b : Nat, u = .pointer (some ⟨a, 0, none⟩) ∧ v = .pointer (some ⟨b, 0, none⟩) ∧ Row8 wc a x0 x1 x2 c ∧ Row8 wc b m0 m1 m2 c ∧ Hid (Below w.heap.size w wc))
      case first =>
        go_region_held3 (fun w' => Kept12 w.heap.size M (w.heap.size + 1 + 1) x0 x1 x2 m0 m1 m2 c w')
          (first
            | (with_reducible exact hk2)
            | ((with_reducible refine Kept12.far (N := W.heap.size) n1 n2 n3 hk2 ?_); ((repeat (first | (with_reducible exact Below.refl _ _) | (with_reducible refine Below.drew ?_) | ((with_reducible refine Below.alloc ?_ ?_ _); rotate_left; (focus (first | (simp; done) | (simp; omega) | omega))) | ((with_reducible refine Below.setCell ?_ ?_ _); rotate_left; (focus (first | (simp; done) | (simp; omega) | omega))))); done))
            | (with_reducible exact hk1)
            | ((with_reducible refine Kept12.far (N := W.heap.size) n1 n2 n3 hk1 ?_); ((repeat (first | (with_reducible exact Below.refl _ _) | (with_reducible refine Below.drew ?_) | ((with_reducible refine Below.alloc ?_ ?_ _); rotate_left; (focus (first | (simp; done) | (simp; omega) | omega))) | ((with_reducible refine Below.setCell ?_ ?_ _); rotate_left; (focus (first | (simp; done) | (simp; omega) | omega))))); done))
            | ((with_reducible refine Kept12.far (N := W.heap.size) n1 n2 n3 S0 ?_); ((repeat (first | (with_reducible exact Below.refl _ _) | (with_reducible refine Below.drew ?_) | ((with_reducible refine Below.alloc ?_ ?_ _); rotate_left; (focus (first | (simp; done) | (simp; omega) | omega))) | ((with_reducible refine Below.setCell ?_ ?_ _); rotate_left; (focus (first | (simp; done) | (simp; omega) | omega))))); done)))
          (first
            | (go_at_call_of 31 (Value.agg #[Value.int IntKind.i64 x0, Value.int IntKind.i64 x1, Value.int IntKind.i64 x2]); refine (eight_c _ _ _ c _ _ ?_).mono ?_; (exact Kept12.captured (l := w.heap.size) (m := M) (x0 := x0) (x1 := x1) (x2 := x2) (m0 := m0) (m1 := m1) (m2 := m2) (by assumption)); rintro e v1 ⟨rfl, hb1⟩; have hk1 := Kept12.step (by assumption) hb1; obtain ⟨hcc1, hff1⟩ := bcell hb1; have hz1 := hb1.size; (try simp at hz1); (try have hz2 : W.heap.size < v1.heap.size := by omega); (try have hz3 : W.heap.size + 1 < v1.heap.size := by omega); have hB1 : Hid (Below w.heap.size w v1) := (by refine Below.trans ?_ (hb1.mono ?_); rotate_left; (focus (first | (simp; done) | (simp; omega) | omega)); (repeat (first | (with_reducible exact HB.out) | (with_reducible exact Below.refl _ _) | (with_reducible refine Below.drew ?_) | ((with_reducible refine Below.alloc ?_ ?_ _); rotate_left; (focus (first | (simp; done) | (simp; omega) | omega))) | ((with_reducible refine Below.setCell ?_ ?_ _); rotate_left; (focus (first | (simp; done) | (simp; omega) | omega)))))))
            | (go_at_call_of 31 (Value.agg #[Value.int IntKind.i64 m0, Value.int IntKind.i64 m1, Value.int IntKind.i64 m2]); refine (eight_c _ _ _ c _ _ ?_).mono ?_; (exact Kept12.captured (l := w.heap.size) (m := M) (x0 := x0) (x1 := x1) (x2 := x2) (m0 := m0) (m1 := m1) (m2 := m2) (by assumption)); rintro e v2 ⟨rfl, hb2⟩; have hk2 := Kept12.step (by assumption) hb2; obtain ⟨hcc2, hff2⟩ := bcell hb2; have hz4 := hb2.size; (try simp at hz4); (try have hz5 : W.heap.size < v2.heap.size := by omega); (try have hz6 : W.heap.size + 1 < v2.heap.size := by omega); (try have hz7 : v1.heap.size < v2.heap.size := by omega); (try have hz8 : v1.heap.size + 1 < v2.heap.size := by omega); have hB2 : Hid (Below w.heap.size w v2) := (by refine Below.trans ?_ (hb2.mono ?_); rotate_left; (focus (first | (simp; done) | (simp; omega) | omega)); (repeat (first | (with_reducible exact hB1.out) | (with_reducible exact Below.refl _ _) | (with_reducible refine Below.drew ?_) | ((with_reducible refine Below.alloc ?_ ?_ _); rotate_left; (focus (first | (simp; done) | (simp; omega) | omega))) | ((with_reducible refine Below.setCell ?_ ?_ _); rotate_left; (focus (first | (simp; done) | (simp; omega) | omega))))))))
        all_goals (go_wp2_with fail; go_meet; refine ⟨_, _, rfl, rfl, ?_, ?_, ?_⟩)
        all_goals first | (refine ⟨?_, ?_, ?_, ?_, ?_, ?_, ?_, ?_⟩ <;> (go_simp; done)) | ((repeat ((with_reducible refine Row8.keep ?_ _ ?_ _); rotate_left; (focus (first | (simp; done) | (simp; omega) | omega)))); (refine Row8.set (fun _ => .int .i64 0) ?_ ?_ ?_ ?_ ?_ ?_ ?_ ?_ <;> (go_simp; done))) | (show Below _ _ _; (repeat (first | (with_reducible exact hB2.out) | (with_reducible exact Below.refl _ _) | (with_reducible refine Below.drew ?_) | ((with_reducible refine Below.alloc ?_ ?_ _); rotate_left; (focus (first | (simp; done) | (simp; omega) | omega))) | ((with_reducible refine Below.setCell ?_ ?_ _); rotate_left; (focus (first | (simp; done) | (simp; omega) | omega))))))
      case rest =>
        obtain ⟨a, b, rfl, rfl, ra, rb, hbl⟩ := hcut
        have CA := Lib.hid ra.at
        have CB := Lib.hid rb.at
        have DA := Lib.hid (f8_bd x0 x1 x2 c)
        have DB := Lib.hid (f8_bd m0 m1 m2 c)
        clear ra rb S0 HB
        generalize f8 x0 x1 x2 c = fa at *
        generalize f8 m0 m1 m2 c = fb at *
        go_wp2_with fail
        go_loopw [42] (fun i wr => ∃ k n : Nat, i = .int .i64 k ∧ k ≤ 8 ∧ wr = wc.drewN n) (fun i _ => 8 - (intOf i).toNat)
        case atStart => exact ⟨0, 0, rfl, by omega, rfl⟩
        case round =>
          obtain ⟨k, n, rfl, hk, rfl⟩ := hrel
          by_cases hlt : k < 8
          · have ca := CA.out k hlt
            have cb := CB.out k hlt
            have da := DA.out k
            have db := DB.out k
            have dr := R.out k
            generalize fa k = p at *
            generalize fb k = q at *
            have t0 : decide (p < 0) = false := decide_eq_false (by omega)
            have t1 : decide (4503599627370496 < q) = false := decide_eq_false (by omega)
            have t2 : decide (q < p) = false := decide_eq_false (by omega)
            have h0 : (0 : Int) ≤ k := by omega
            have h8 : (k : Int) < 8 := by omega
            go_wp2_with fail
            go_quiet (fail)
            go_wp2_with fail
            go_roundw
            case rel => exact ⟨k + 1, _, by go_num, by omega, rfl⟩
            case measure => simp [intOf]; omega
          · obtain rfl : k = 8 := by omega
            go_wp2_with fail
            go_ret
            exact ⟨rfl, pw_below_drewN hbl.out _⟩

end Go.Proofs.Ytiaiogmicllllaa.Cx
