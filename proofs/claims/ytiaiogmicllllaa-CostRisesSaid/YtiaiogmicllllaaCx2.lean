/- Contracts of the cost functions and of the document's: Part, Bits, Sort, and the reference's. -/
import Derived.Test.YtiaiogmicllllaaCx1
namespace Go.Proofs.Ytiaiogmicllllaa.Cx
open Go.RowKit Go.Proofs.YtiaiogmicllllaaW.PrintWords Go.Proofs.YtiaiogmicllllaaW.PrintLast Go.Proofs.YtiaiogmicllllaaW.PrintMore Go.Proofs.Ytiaiogmicllllaa.PlainC
attribute [local go_sem] max2_int min2_int max_two min_two max_three min_three max_four min_four   -- for this text's walks alone

set_option maxHeartbeats 400000 in
theorem rfit_c (a : Int) (w : World) : Calls Try.prog 10 #[.int .i64 a] w (Tells w (.int .i64 (fit a))) := by
  go_enter Try.func10, Try.ntmps10
  go_wp2
  all_goals
    go_ret
    refine Tells.mk ?_ (Below.refl _ _)
    unfold fit; repeat' split
    all_goals omega

set_option maxHeartbeats 1000000 in
theorem radd_c (a b : Int) (w : World) : Calls Try.prog 12 #[.int .i64 a, .int .i64 b] w (Tells w (.int .i64 (add a b))) := by
  unfold add
  have ha := fit_bd a
  have hb := fit_bd b
  go_enter Try.func12, Try.ntmps12
  go_wp2_with fail
  refine (rfit_c _ _).mono ?_; rintro e w1 ⟨rfl, h1⟩
  have H1 := Lib.hid h1; clear h1
  go_wp2_with fail
  refine (rfit_c _ _).mono ?_; rintro e w2 ⟨rfl, h2⟩
  have H2 := Lib.hid (below_step H1.out h2); clear h2 H1
  go_wp2_with fail
  refine (rfit_c _ _).mono ?_; rintro e w3 ⟨rfl, h3⟩
  have H3 := Lib.hid (below_step H2.out h3); clear h3 H2
  go_wp2
  go_ret
  exact ⟨rfl, H3.out⟩

theorem mulr_odd (a b n : Int) (ha : 0 ≤ a) (hb : 0 < b) (hn : 0 ≤ n) (hn1 : n ≤ 4503599627370496) (ha1 : a ≤ 4503599627370496) (hodd : b % 2 = 1) :
    fit (add n a + add a a * (b / 2)) = fit (n + a * b) := by
  rw [← mul_odd a b n ha hb hn hn1 ha1 (by rw [Int.tmod_eq_emod_of_nonneg (by omega)]; exact hodd), Int.tdiv_eq_ediv_of_nonneg (by omega)]
theorem mulr_even (a b n : Int) (ha : 0 ≤ a) (hb : 0 < b) (hn : 0 ≤ n) (hn1 : n ≤ 4503599627370496) (ha1 : a ≤ 4503599627370496) (hodd : ¬ b % 2 = 1) :
    fit (n + add a a * (b / 2)) = fit (n + a * b) := by
  rw [← mul_even a b n ha hb hn hn1 ha1 (by rw [Int.tmod_eq_emod_of_nonneg (by omega)]; exact hodd), Int.tdiv_eq_ediv_of_nonneg (by omega)]
theorem mulr_end (a n : Int) (b : Int) (h : b ≤ 0) (h0 : 0 ≤ b) (hn : 0 ≤ n) (hn1 : n ≤ 4503599627370496) {R : Int} (e : fit (n + a * b) = R) : n = R := by
  obtain rfl : b = 0 := by omega
  rw [Int.mul_zero, Int.add_zero, fit_id n hn hn1] at e
  exact e

set_option maxHeartbeats 2000000 in
theorem rmul_c (A B : Int) (w : World) : Calls Try.prog 14 #[.int .i64 A, .int .i64 B] w (Tells w (.int .i64 (mul A B))) := by
  have hA := fit_bd A
  have hB := fit_bd B
  have HR : Hid (fit (0 + fit A * fit B) = mul A B) := by rw [Int.zero_add]; rfl
  generalize mul A B = R at *
  go_enter Try.func14, Try.ntmps14
  go_wp2_with fail
  refine (rfit_c _ _).mono ?_; rintro e w1 ⟨rfl, h1⟩
  have H1 := Lib.hid h1; clear h1
  go_wp2_with fail
  refine (rfit_c _ _).mono ?_; rintro e w2 ⟨rfl, h2⟩
  have H2 := Lib.hid (below_step H1.out h2); clear h2 H1
  go_wp2
  go_loopw [0, 1, 5] (fun x y z wr => ∃ a b n : Int, x = .int .i64 a ∧ y = .int .i64 b ∧ z = .int .i64 n ∧ 0 ≤ a ∧ a ≤ 4503599627370496 ∧ 0 ≤ b ∧ b ≤ 4503599627370496 ∧ 0 ≤ n ∧ n ≤ 4503599627370496 ∧ Hid (fit (n + a * b) = R) ∧ Hid (Below w.heap.size w wr)) (fun _ y _ _ => (intOf y).toNat)
  case atStart => exact ⟨_, _, _, rfl, rfl, rfl, hA.1, hA.2, hB.1, hB.2, by omega, by omega, HR, H2⟩
  case round =>
    clear HR H2 hA hB
    obtain ⟨a, b, n, rfl, rfl, rfl, ha, ha1, hb, hb1, hn, hn1, HE, HW⟩ := hrel
    have hna := add_bd n a
    have haa := add_bd a a
    by_cases hp : 0 < b
    · by_cases ho : b % 2 = 1
      · have HO := Lib.hid (mulr_odd a b n ha hp hn hn1 ha1 ho)
        have ho1 : (b % 2 == 1) = true := by rw [ho]; rfl
        clear ho
        go_wp2_with fail
        refine (radd_c _ _ _).mono ?_; rintro e w3 ⟨rfl, h3⟩
        have H3 := Lib.hid (below_step HW.out h3); clear h3 HW
        go_wp2_with fail
        refine (radd_c _ _ _).mono ?_; rintro e w4 ⟨rfl, h4⟩
        have H4 := Lib.hid (below_step H3.out h4); clear h4 H3
        go_wp2
        go_roundw
        case rel => exact ⟨_, _, _, rfl, rfl, rfl, haa.1, haa.2, by omega, by omega, hna.1, hna.2, HO.out.trans HE.out, H4.out⟩
        case measure => simp [intOf]; omega
      · have HO := Lib.hid (mulr_even a b n ha hp hn hn1 ha1 ho)
        have ho1 : (b % 2 == 1) = false := beq_eq_false_iff_ne.mpr ho
        clear ho
        go_wp2_with fail
        refine (radd_c _ _ _).mono ?_; rintro e w4 ⟨rfl, h4⟩
        have H4 := Lib.hid (below_step HW.out h4); clear h4 HW
        go_wp2
        go_roundw
        case rel => exact ⟨_, _, _, rfl, rfl, rfl, haa.1, haa.2, by omega, by omega, hn, hn1, HO.out.trans HE.out, H4.out⟩
        case measure => simp [intOf]; omega
    · have HX := Lib.hid (mulr_end a n b (by omega) hb hn hn1 HE.out)
      go_wp2
      go_ret
      exact Tells.mk HX.out HW.out

theorem rcols (c x : Int) (h0 : c < 0 → x = 0) (h1 : 24 < c → x = 24) (h2 : 0 ≤ c → c ≤ 24 → x = c) : x = colsOf c := by
  unfold colsOf mx mn; repeat' split
  all_goals omega
set_option maxHeartbeats 2000000 in
theorem rpages_c (r c : Int) (w : World) : Calls Try.prog 16 #[.int .i64 r, .int .i64 c] w (Tells w (.int .i64 (pages r c))) := by
  have hb := colsOf_bd c
  have hx := mul_bd r (4 + 8 * colsOf c)
  unfold pages
  have HC := Lib.hid (rcols c)
  obtain ⟨q, hq⟩ : ∃ q, q = colsOf c := ⟨_, rfl⟩
  rw [← hq] at hb hx HC ⊢
  clear hq
  have key : ∀ x, x = q → Calls Try.prog 16 #[.int .i64 r, .int .i64 c] w (Tells w (.int .i64 (add 1 (mul r (4 + 8 * x) / 400)))) → Calls Try.prog 16 #[.int .i64 r, .int .i64 c] w (Tells w (.int .i64 (add 1 (mul r (4 + 8 * q) / 400)))) := by
    intro x hx h; subst hx; exact h
  by_cases hn : c < 0
  · refine key 0 (HC.out 0 (fun _ => rfl) (by omega) (by omega)) ?_
    have hx := mul_bd r 4
    clear HC key hb
    go_enter Try.func16, Try.ntmps16
    go_wp2_with fail
    refine (rmul_c _ _ _).mono ?_; rintro e w1 ⟨rfl, h1⟩
    have H1 := Lib.hid h1; clear h1
    go_wp2_with fail
    refine (radd_c _ _ _).mono ?_; rintro e w2 ⟨rfl, h2⟩
    have H2 := Lib.hid (below_step H1.out h2); clear h2 H1
    go_wp2
    go_ret
    exact Tells.mk (by rw [show (4 + 8 * 0 : Int) = 4 from rfl]) H2.out
  · by_cases hm : 24 < c
    · refine key 24 (HC.out 24 (by omega) (fun _ => rfl) (by omega)) ?_
      have hx := mul_bd r 196
      clear HC key hb
      go_enter Try.func16, Try.ntmps16
      go_wp2_with fail
      refine (rmul_c _ _ _).mono ?_; rintro e w1 ⟨rfl, h1⟩
      have H1 := Lib.hid h1; clear h1
      go_wp2_with fail
      refine (radd_c _ _ _).mono ?_; rintro e w2 ⟨rfl, h2⟩
      have H2 := Lib.hid (below_step H1.out h2); clear h2 H1
      go_wp2
      go_ret
      exact Tells.mk (by rw [show (4 + 8 * 24 : Int) = 196 from rfl]) H2.out
    · refine key c (HC.out c (by omega) (by omega) (fun _ _ => rfl)) ?_
      have hx := mul_bd r (4 + 8 * c)
      clear HC key hb
      go_enter Try.func16, Try.ntmps16
      go_wp2_with fail
      refine (rmul_c _ _ _).mono ?_; rintro e w1 ⟨rfl, h1⟩
      have H1 := Lib.hid h1; clear h1
      go_wp2_with fail
      refine (radd_c _ _ _).mono ?_; rintro e w2 ⟨rfl, h2⟩
      have H2 := Lib.hid (below_step H1.out h2); clear h2 H1
      go_wp2
      go_ret
      exact ⟨rfl, H2.out⟩

set_option maxHeartbeats 1000000 in
theorem rseq_c (r c : Int) (w : World) : Calls Try.prog 18 #[.int .i64 r, .int .i64 c] w (Tells w (.int .i64 (seq r c))) := by
  unfold seq
  go_enter Try.func18, Try.ntmps18
  go_wp2_with fail
  refine (rpages_c _ _ _).mono ?_; rintro e w1 ⟨rfl, h1⟩
  have H1 := Lib.hid h1; clear h1
  go_wp2_with fail
  refine (rmul_c _ _ _).mono ?_; rintro e w2 ⟨rfl, h2⟩
  have H2 := Lib.hid (below_step H1.out h2); clear h2 H1
  go_wp2_with fail
  refine (radd_c _ _ _).mono ?_; rintro e w3 ⟨rfl, h3⟩
  have H3 := Lib.hid (below_step H2.out h3); clear h3 H2
  go_wp2
  go_ret
  exact ⟨rfl, H3.out⟩

set_option maxHeartbeats 1000000 in
theorem rrange_c (a : Int) (w : World) : Calls Try.prog 30 #[.int .i64 a] w (Tells w (.int .i64 (range a))) := by
  unfold range
  go_enter Try.func30, Try.ntmps30
  go_wp2_with fail
  refine (rmul_c _ _ _).mono ?_; rintro e w1 ⟨rfl, h1⟩
  have H1 := Lib.hid h1; clear h1
  go_wp2_with fail
  refine (radd_c _ _ _).mono ?_; rintro e w2 ⟨rfl, h2⟩
  have H2 := Lib.hid (below_step H1.out h2); clear h2 H1
  go_wp2
  go_ret
  exact ⟨rfl, H2.out⟩

set_option maxHeartbeats 1000000 in
theorem rloop_c (a b c : Int) (w : World) : Calls Try.prog 24 #[.int .i64 a, .int .i64 b, .int .i64 c] w (Tells w (.int .i64 (loop a b c))) := by
  unfold loop
  by_cases hb : b < 1
  · rw [show mx 1 b = 1 from by unfold mx; split <;> omega]
    go_enter Try.func24, Try.ntmps24
    go_wp2_with fail
    refine (rmul_c _ _ _).mono ?_; rintro e w1 ⟨rfl, h1⟩
    have H1 := Lib.hid h1; clear h1
    go_wp2_with fail
    refine (radd_c _ _ _).mono ?_; rintro e w2 ⟨rfl, h2⟩
    have H2 := Lib.hid (below_step H1.out h2); clear h2 H1
    go_wp2
    go_ret
    exact ⟨rfl, H2.out⟩
  · rw [show mx 1 b = b from by unfold mx; split <;> omega]
    go_enter Try.func24, Try.ntmps24
    go_wp2_with fail
    refine (rmul_c _ _ _).mono ?_; rintro e w1 ⟨rfl, h1⟩
    have H1 := Lib.hid h1; clear h1
    go_wp2_with fail
    refine (radd_c _ _ _).mono ?_; rintro e w2 ⟨rfl, h2⟩
    have H2 := Lib.hid (below_step H1.out h2); clear h2 H1
    go_wp2
    go_ret
    exact ⟨rfl, H2.out⟩

set_option maxHeartbeats 1000000 in
theorem rlookup_c (a b c : Int) (w : World) : Calls Try.prog 26 #[.int .i64 a, .int .i64 b, .int .i64 c] w (Tells w (.int .i64 (loop a b (range c)))) := by
  go_enter Try.func26, Try.ntmps26
  go_wp2_with fail
  refine (rrange_c _ _).mono ?_; rintro e w1 ⟨rfl, h1⟩
  have H1 := Lib.hid h1; clear h1
  go_wp2_with fail
  refine (rloop_c _ _ _ _).mono ?_; rintro e w2 ⟨rfl, h2⟩
  have H2 := Lib.hid (below_step H1.out h2); clear h2 H1
  go_wp2
  go_ret
  exact ⟨rfl, H2.out⟩
end Go.Proofs.Ytiaiogmicllllaa.Cx
