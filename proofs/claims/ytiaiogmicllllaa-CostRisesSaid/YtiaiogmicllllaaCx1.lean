/- Contracts of the cost functions: what Add, Pages, Seq answer. -/
import Derived.Test.YtiaiogmicllllaaCx0
namespace Go.Proofs.Ytiaiogmicllllaa.Cx
open Go.RowKit Go.Proofs.YtiaiogmicllllaaW.PrintWords Go.Proofs.YtiaiogmicllllaaW.PrintLast Go.Proofs.YtiaiogmicllllaaW.PrintMore Go.Proofs.Ytiaiogmicllllaa.PlainC
attribute [local go_sem] max2_int min2_int max_two min_two max_three min_three max_four min_four   -- for this text's walks alone

/-- The sum of the first ones of numbers. -/
def sumK (g : Nat → Int) : Nat → Int
  | 0 => 0
  | k + 1 => fit (sumK g k + fit (g k))
theorem sumK_bd (g : Nat → Int) (k : Nat) : 0 ≤ sumK g k ∧ sumK g k ≤ 4503599627370496 := by
  cases k with
  | zero => exact ⟨Int.le_refl 0, by show (0 : Int) ≤ _; omega⟩
  | succ k => exact fit_bd _

set_option maxHeartbeats 1000000 in
theorem add_c (n : Nat) (g : Nat → Int) (b c : Nat) (w : World) (hl : n ≤ 100) (hc : ∀ k, k < n → w.cell? ⟨b, k, none⟩ = some (.int .i64 (g k))) :
    Calls Try.prog 11 #[.slice (some ⟨b, 0, none⟩) n c] w (Tells w (.int .i64 (sumK g n))) := by
  have HC := Lib.hid hc
  clear hc
  go_enter Try.func11, Try.ntmps11
  go_wp2
  go_loopw [3, 8] (fun v i wr => ∃ k : Nat, k ≤ n ∧ i = .int .i64 k ∧ v = .int .i64 (sumK g k) ∧ Hid (Below w.heap.size w wr)) (fun _ i _ => n - (intOf i).toNat)
  case atStart => exact ⟨0, Nat.zero_le _, rfl, rfl, Below.refl _ _⟩
  case round =>
    obtain ⟨k, hk, rfl, rfl, hb⟩ := hrel
    by_cases hlt : k < n
    · have hcell := (hb.out.cell (World.block_lt_of_cell? w _ (HC.out k hlt))).trans (HC.out k hlt)
      have hs := sumK_bd g k
      have hf := fit_bd (g k)
      go_wp2_with fail
      refine (fit_c _ _).mono ?_; rintro e w1 ⟨rfl, h1⟩
      go_wp2_with fail
      refine (fit_c _ _).mono ?_; rintro e w2 ⟨rfl, h2⟩
      have HB := Lib.hid (below_step (below_step hb.out h1) h2)
      clear h1 h2
      go_wp2
      go_roundw
      case rel => exact ⟨k + 1, by omega, by go_num, rfl, HB.out⟩
      case measure => simp [intOf]; omega
    · obtain rfl : k = n := by omega
      go_wp2
      go_ret
      exact ⟨rfl, hb.out⟩

set_option maxHeartbeats 1000000 in
theorem add_nil_c (c : Nat) (w : World) : Calls Try.prog 11 #[.slice none 0 c] w (Tells w (.int .i64 0)) := by
  go_enter Try.func11, Try.ntmps11
  go_wp2
  go_loopw [3, 8] (fun v i wr => i = .int .i64 0 ∧ v = .int .i64 0 ∧ wr = w) (fun _ _ _ => 0)
  case atStart => exact ⟨rfl, rfl, rfl⟩
  case round =>
    obtain ⟨rfl, rfl, rfl⟩ := hrel
    go_wp2
    go_ret
    exact ⟨rfl, Below.refl _ _⟩

/-- Numbers told by place. -/
def two (x y : Int) : Nat → Int
  | 0 => x
  | _ => y
def three (x y z : Int) : Nat → Int
  | 0 => x
  | 1 => y
  | _ => z
theorem sumK_two (x y : Int) : sumK (two x y) 2 = add x y := add2_prog _ _
theorem sumK_three (x y z : Int) : sumK (three x y z) 3 = add (add x y) z := add3_prog _ _ _

theorem add2_c (x y : Int) (w : World) : Calls Try.prog 11 #[.slice (some ⟨w.heap.size, 0, none⟩) 2 2] (w.alloc (.cells #[.int .i64 x, .int .i64 y] 2)) (Tells w (.int .i64 (add x y))) := by
  refine (add_c 2 (two x y) _ 2 _ (by omega) ?_).mono ?_
  · intro k hk
    match k, hk with
    | 0, _ => simp [two]
    | 1, _ => simp [two]
  · rintro e w' ⟨rfl, h⟩
    exact ⟨by rw [sumK_two], (((Below.refl _ _).alloc (Nat.le_refl _) _)).trans (h.mono (by simp))⟩
theorem add3_c (x y z : Int) (w : World) : Calls Try.prog 11 #[.slice (some ⟨w.heap.size, 0, none⟩) 3 3] (w.alloc (.cells #[.int .i64 x, .int .i64 y, .int .i64 z] 2)) (Tells w (.int .i64 (add (add x y) z))) := by
  refine (add_c 3 (three x y z) _ 3 _ (by omega) ?_).mono ?_
  · intro k hk
    match k, hk with
    | 0, _ => simp [three]
    | 1, _ => simp [three]
    | 2, _ => simp [three]
  · rintro e w' ⟨rfl, h⟩
    exact ⟨by rw [sumK_three], (((Below.refl _ _).alloc (Nat.le_refl _) _)).trans (h.mono (by simp))⟩

def range (a : Int) : Int := add 30 (mul a 11)
def loop (a b c : Int) : Int := add a (mul (mx 1 b) c)
def colsOf (c : Int) : Int := mx 0 (mn c 24)
def pages (r c : Int) : Int := add 1 (mul r (4 + 8 * colsOf c) / 400)
def seq (r c : Int) : Int := add (mul 10 (pages r c)) r
theorem colsOf_bd (c : Int) : 0 ≤ colsOf c ∧ colsOf c ≤ 24 := by
  unfold colsOf mx mn; repeat' split
  all_goals omega

set_option maxHeartbeats 1000000 in
theorem range_c (a : Int) (w : World) : Calls Try.prog 29 #[.int .i64 a] w (Tells w (.int .i64 (range a))) := by
  unfold range
  go_enter Try.func29, Try.ntmps29
  go_wp2_with fail
  refine (mul_c _ _ _).mono ?_; rintro e w1 ⟨rfl, h1⟩
  have H1 := Lib.hid h1; clear h1
  go_wp2_with fail
  refine (add2_c _ _ _).mono ?_; rintro e w2 ⟨rfl, h2⟩
  have H2 := Lib.hid (below_step H1.out h2); clear h2 H1
  go_wp2
  go_ret
  exact ⟨rfl, H2.out⟩

set_option maxHeartbeats 1000000 in
theorem loop_c (a b c : Int) (w : World) : Calls Try.prog 23 #[.int .i64 a, .int .i64 b, .int .i64 c] w (Tells w (.int .i64 (loop a b c))) := by
  unfold loop
  obtain ⟨m, hm⟩ : ∃ m, m = mx 1 b := ⟨_, rfl⟩
  rw [← hm]
  have hm_ : (if 1 < b then b else 1) = m := hm.symm
  clear hm
  go_enter Try.func23, Try.ntmps23
  go_wp2_with fail
  refine (mul_c _ _ _).mono ?_; rintro e w1 ⟨rfl, h1⟩
  have H1 := Lib.hid h1; clear h1
  go_wp2_with fail
  refine (add2_c _ _ _).mono ?_; rintro e w2 ⟨rfl, h2⟩
  have H2 := Lib.hid (below_step H1.out h2); clear h2 H1
  go_wp2
  go_ret
  exact ⟨rfl, H2.out⟩

set_option maxHeartbeats 1000000 in
theorem lookup_c (a b c : Int) (w : World) : Calls Try.prog 25 #[.int .i64 a, .int .i64 b, .int .i64 c] w (Tells w (.int .i64 (loop a b (range c)))) := by
  go_enter Try.func25, Try.ntmps25
  go_wp2_with fail
  refine (range_c _ _).mono ?_; rintro e w1 ⟨rfl, h1⟩
  have H1 := Lib.hid h1; clear h1
  go_wp2_with fail
  refine (loop_c _ _ _ _).mono ?_; rintro e w2 ⟨rfl, h2⟩
  have H2 := Lib.hid (below_step H1.out h2); clear h2 H1
  go_wp2
  go_ret
  exact ⟨rfl, H2.out⟩

set_option maxHeartbeats 1000000 in
theorem pages_c (r c : Int) (w : World) : Calls Try.prog 15 #[.int .i64 r, .int .i64 c] w (Tells w (.int .i64 (pages r c))) := by
  have hb := colsOf_bd c
  unfold pages
  obtain ⟨m, hm⟩ : ∃ m, m = mn c 24 := ⟨_, rfl⟩
  obtain ⟨q, hq⟩ : ∃ q, q = colsOf c := ⟨_, rfl⟩
  rw [← hq] at hb ⊢
  have hm_ : (if 24 < c then 24 else c) = m := hm.symm
  have hq_ : (if 0 < m then m else 0) = q := by rw [hm, hq]; rfl
  clear hm hq
  have hx := mul_bd r (4 + 8 * q)
  go_enter Try.func15, Try.ntmps15
  go_wp2_with fail
  refine (mul_c _ _ _).mono ?_; rintro e w1 ⟨rfl, h1⟩
  have H1 := Lib.hid h1; clear h1
  go_wp2_with fail
  refine (add2_c _ _ _).mono ?_; rintro e w2 ⟨rfl, h2⟩
  have H2 := Lib.hid (below_step H1.out h2); clear h2 H1
  go_wp2
  go_ret
  exact ⟨rfl, H2.out⟩

set_option maxHeartbeats 1000000 in
theorem seq_c (r c : Int) (w : World) : Calls Try.prog 17 #[.int .i64 r, .int .i64 c] w (Tells w (.int .i64 (seq r c))) := by
  unfold seq
  go_enter Try.func17, Try.ntmps17
  go_wp2_with fail
  refine (pages_c _ _ _).mono ?_; rintro e w1 ⟨rfl, h1⟩
  have H1 := Lib.hid h1; clear h1
  go_wp2_with fail
  refine (mul_c _ _ _).mono ?_; rintro e w2 ⟨rfl, h2⟩
  have H2 := Lib.hid (below_step H1.out h2); clear h2 H1
  go_wp2_with fail
  refine (add2_c _ _ _).mono ?_; rintro e w3 ⟨rfl, h3⟩
  have H3 := Lib.hid (below_step H2.out h3); clear h3 H2
  go_wp2
  go_ret
  exact ⟨rfl, H3.out⟩

set_option maxHeartbeats 1000000 in
theorem lives_c (w : World) : Calls Try.prog 8 #[] w (Tells w (.bool true)) := by
  have h160 : seq 100 2 = 160 := by decide
  have hbig : mul 1099511627776 1099511627776 = 4503599627370496 := by decide
  have H160 := Lib.hid h160
  have HBIG := Lib.hid hbig
  clear h160 hbig
  go_enter Try.func8, Try.ntmps8
  go_wp2_with fail
  refine (seq_c _ _ _).mono ?_; rintro e w1 ⟨rfl, h1⟩
  rw [H160.out]
  have H1 := Lib.hid h1; clear h1
  go_wp2_with fail
  refine (mul_c _ _ _).mono ?_; rintro e w2 ⟨rfl, h2⟩
  rw [HBIG.out]
  have H2 := Lib.hid (below_step H1.out h2); clear h2 H1
  go_wp2
  go_ret
  exact ⟨rfl, H2.out⟩
end Go.Proofs.Ytiaiogmicllllaa.Cx
