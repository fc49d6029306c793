/- Contracts of the cost functions and of the document's: Part, Bits, Sort, and the reference's. -/
import Derived.Test.YtiaiogmicllllaaCx2
namespace Go.Proofs.Ytiaiogmicllllaa.Cx
open Go.RowKit Go.Proofs.YtiaiogmicllllaaW.PrintWords Go.Proofs.YtiaiogmicllllaaW.PrintLast Go.Proofs.YtiaiogmicllllaaW.PrintMore Go.Proofs.Ytiaiogmicllllaa.PlainC
attribute [local go_sem] max2_int min2_int max_two min_two max_three min_three max_four min_four   -- for this text's walks alone

def thou (t : Int) : Int := mx 0 (mn t 1000)
theorem thou_bd (t : Int) : 0 ≤ thou t ∧ thou t ≤ 1000 := by
  unfold thou mx mn; repeat' split
  all_goals omega
def part (n t : Int) : Int := fit n * thou t / 1000
theorem part_parts (n t : Int) (h0 : 0 ≤ n) (h1 : n ≤ 4503599627370496) (t0 : 0 ≤ t) (t1 : t ≤ 1000) :
    0 ≤ n / 1000 * t ∧ n / 1000 * t ≤ 4503599627371000 ∧ 0 ≤ n % 1000 * t ∧ n % 1000 * t ≤ 1000000 ∧ 0 ≤ n * t ∧ n * t ≤ 4503599627370496000 ∧ n / 1000 * t + n % 1000 * t / 1000 = n * t / 1000 := by
  obtain ⟨q, hq⟩ : ∃ q, q = n / 1000 := ⟨_, rfl⟩
  obtain ⟨r, hr⟩ : ∃ r, r = n % 1000 := ⟨_, rfl⟩
  have hn : n = 1000 * q + r := by omega
  have hq0 : 0 ≤ q := by omega
  have hq1 : q ≤ 4503599627371 := by omega
  have hr0 : 0 ≤ r := by omega
  have hr1 : r < 1000 := by omega
  rw [← hq, ← hr]; clear hq hr
  have hqt : 0 ≤ q * t := Int.mul_nonneg hq0 t0
  have hqt1 : q * t ≤ 4503599627371 * 1000 := Int.mul_le_mul hq1 t1 t0 (by omega)
  have hrt : 0 ≤ r * t := Int.mul_nonneg hr0 t0
  have hrt1 : r * t ≤ 1000 * 1000 := Int.mul_le_mul (by omega) t1 t0 (by omega)
  have hnt : n * t = 1000 * (q * t) + r * t := by rw [hn, Int.add_mul, Int.mul_assoc]
  have hnt1 : n * t ≤ 4503599627370496 * 1000 := Int.mul_le_mul h1 t1 t0 (by omega)
  generalize n * t = z at *
  generalize q * t = u at *
  generalize r * t = v at *
  subst hnt
  refine ⟨hqt, by omega, hrt, by omega, by omega, by omega, by omega⟩

set_option maxHeartbeats 1000000 in
theorem part_c (n t : Int) (w : World) : Calls Try.prog 19 #[.int .i64 n, .int .i64 t] w (Tells w (.int .i64 (part n t))) := by
  have hn := fit_bd n
  have ht := thou_bd t
  unfold part
  obtain ⟨m, hm⟩ : ∃ m, m = mn t 1000 := ⟨_, rfl⟩
  obtain ⟨q, hq⟩ : ∃ q, q = thou t := ⟨_, rfl⟩
  rw [← hq] at ht ⊢
  have hm_ : (if 1000 < t then 1000 else t) = m := hm.symm
  have hq_ : (if 0 < m then m else 0) = q := by rw [hm, hq]; rfl
  clear hm hq
  obtain ⟨p1, p2, p3, p4, p5, p6, p7⟩ := part_parts (fit n) q hn.1 hn.2 ht.1 ht.2
  have P7 := Lib.hid p7
  clear p7
  go_enter Try.func19, Try.ntmps19
  go_wp2_with fail
  refine (fit_c _ _).mono ?_; rintro e w1 ⟨rfl, h1⟩
  have H1 := Lib.hid h1; clear h1
  go_wp2
  go_ret
  exact Tells.mk P7.out H1.out

theorem rthou (t x : Int) (h0 : t < 0 → x = 0) (h1 : 1000 < t → x = 1000) (h2 : 0 ≤ t → t ≤ 1000 → x = t) : x = thou t := by
  unfold thou mx mn; repeat' split
  all_goals omega
set_option maxHeartbeats 1000000 in
theorem rpart_c (n t : Int) (w : World) : Calls Try.prog 20 #[.int .i64 n, .int .i64 t] w (Tells w (.int .i64 (part n t))) := by
  have hn := fit_bd n
  have ht := thou_bd t
  unfold part
  by_cases h0 : t < 0
  · rw [← rthou t 0 (fun _ => rfl) (by omega) (by omega)]
    have HZ : Hid ((0 : Int) = fit n * 0 / 1000) := by rw [Int.mul_zero]; rfl
    clear ht
    go_enter Try.func20, Try.ntmps20
    go_wp2_with fail
    refine (rfit_c _ _).mono ?_; rintro e w1 ⟨rfl, h1⟩
    have H1 := Lib.hid h1; clear h1
    go_wp2
    go_ret
    exact Tells.mk (by first | rfl | exact HZ.out | (rw [← HZ.out])) H1.out
  · by_cases h1 : 1000 < t
    · rw [← rthou t 1000 (by omega) (fun _ => rfl) (by omega)]
      clear ht
      go_enter Try.func20, Try.ntmps20
      go_wp2_with fail
      refine (rfit_c _ _).mono ?_; rintro e w1 ⟨rfl, h1⟩
      have H1 := Lib.hid h1; clear h1
      go_wp2
      go_ret
      exact Tells.mk (by first | rfl | omega) H1.out
    · rw [← rthou t t (by omega) (by omega) (fun _ _ => rfl)]
      obtain ⟨_, _, _, _, p5, p6, _⟩ := part_parts (fit n) t hn.1 hn.2 (by omega) (by omega)
      clear ht
      go_enter Try.func20, Try.ntmps20
      go_wp2_with fail
      refine (rfit_c _ _).mono ?_; rintro e w1 ⟨rfl, h1⟩
      have H1 := Lib.hid h1; clear h1
      go_wp2
      go_ret
      exact Tells.mk (by first | rfl | omega) H1.out

theorem bits_step (x : Int) (h : 0 < x) : bl (x / 2).toNat + 1 = bl x.toNat := by
  rw [bl_pos x.toNat (by omega), show (x / 2).toNat = x.toNat / 2 by omega]
theorem bits_none (x : Int) (h : x ≤ 0) : bl x.toNat = 0 := by
  rw [show x.toNat = 0 by omega, bl_zero]
theorem bits_nat (n : Int) : PlainC.bits n = ((bl (fit n).toNat : Nat) : Int) := rfl

set_option maxHeartbeats 1000000 in
theorem bits_c (n : Int) (w : World) : Calls Try.prog 21 #[.int .i64 n] w (Tells w (.int .i64 (PlainC.bits n))) := by
  have hn := fit_bd n
  have hb := bl_le n
  go_enter Try.func21, Try.ntmps21
  go_wp2_with fail
  refine (fit_c _ _).mono ?_; rintro e w1 ⟨rfl, h1⟩
  have H1 := Lib.hid h1; clear h1
  go_wp2
  go_loopw [0, 3] (fun x y wr => ∃ (a : Int) (k : Nat), x = .int .i64 a ∧ y = .int .i64 k ∧ 0 ≤ a ∧ a ≤ 4503599627370496 ∧ Hid (k + bl a.toNat = bl (fit n).toNat) ∧ Hid (Below w.heap.size w wr)) (fun x _ _ => (intOf x).toNat)
  case atStart => exact ⟨_, 0, rfl, rfl, hn.1, hn.2, by show _ = _; omega, H1⟩
  case round =>
    clear H1
    obtain ⟨a, k, rfl, rfl, h0, h1, HK, HW⟩ := hrel
    by_cases hp : 0 < a
    · have hs := Lib.hid (bits_step a hp)
      have hk : k ≤ 53 := by have := HK.out; omega
      go_wp2
      go_roundw
      case rel => exact ⟨_, k + 1, rfl, by go_num, by omega, by omega, by have := HK.out; have := hs.out; show _ = _; omega, HW⟩
      case measure => simp [intOf]; omega
    · have hs := Lib.hid (bits_none a (by omega))
      go_wp2
      go_ret
      exact Tells.mk (by rw [bits_nat, ← HK.out, hs.out]; simp) HW.out

theorem rb_yes (n : Int) (k : Nat) (h : ((2 ^ k : Nat) : Int) ≤ fit n) : k < bl (fit n).toNat := (pow_le_iff _ _).1 (by have := fit_bd n; omega)
theorem rb_no (n : Int) (k : Nat) (hk : k ≤ bl (fit n).toNat) (h : fit n < ((2 ^ k : Nat) : Int)) : k = bl (fit n).toNat := by
  have := (pow_le_iff (fit n).toNat k).2
  have := fit_bd n; omega
theorem rb_pow (k : Nat) (h : k ≤ 53) : 1 ≤ ((2 ^ k : Nat) : Int) ∧ ((2 ^ k : Nat) : Int) ≤ 9007199254740992 := by
  have h1 := Nat.pow_le_pow_right (show 0 < 2 by omega) h
  have h2 := Nat.pow_pos (n := k) (show 0 < 2 by omega)
  omega
theorem rb_next (k : Nat) : ((2 ^ k : Nat) : Int) * 2 = ((2 ^ (k + 1) : Nat) : Int) := by rw [Nat.pow_succ]; omega
def pow2 (k : Nat) : Int := ((2 ^ k : Nat) : Int)

set_option maxHeartbeats 1000000 in
theorem rbits_c (n : Int) (w : World) : Calls Try.prog 22 #[.int .i64 n] w (Tells w (.int .i64 (PlainC.bits n))) := by
  have hn := fit_bd n
  have hb := bl_le n
  go_enter Try.func22, Try.ntmps22
  go_wp2
  go_loopw [3, 4] (fun x y wr => ∃ (k : Nat), x = .int .i64 k ∧ y = .int .i64 (pow2 k) ∧ k ≤ bl (fit n).toNat ∧ Hid (Below w.heap.size w wr)) (fun x _ _ => 54 - (intOf x).toNat)
  case atStart => exact ⟨0, rfl, rfl, Nat.zero_le _, Below.refl _ _⟩
  case round =>
    obtain ⟨k, rfl, rfl, hk, HW⟩ := hrel
    have hp : 1 ≤ pow2 k ∧ pow2 k ≤ 9007199254740992 := rb_pow k (by omega)
    have HY : Hid (pow2 k ≤ fit n → k < bl (fit n).toNat) := rb_yes n k
    have HN : Hid (fit n < pow2 k → k = bl (fit n).toNat) := rb_no n k hk
    have HP : Hid (pow2 k * 2 = pow2 (k + 1)) := rb_next k
    go_wp2_with fail
    refine (rfit_c _ _).mono ?_; rintro e w1 ⟨rfl, h1⟩
    have H1 := Lib.hid (below_step HW.out h1); clear h1 HW
    go_wp2
    · have hle : pow2 k ≤ fit n := by assumption
      have := HY.out hle
      go_roundw
      case rel => exact ⟨k + 1, by go_num, by rw [HP.out], by omega, H1⟩
      case measure => simp [intOf]; omega
    · have hgt : fit n < pow2 k := by assumption
      go_ret
      exact Tells.mk (by rw [bits_nat, ← HN.out hgt]) H1.out

def sorts (a b : Int) : Int := add a (mul b (PlainC.bits b))
set_option maxHeartbeats 1000000 in
theorem sort_c (a b : Int) (w : World) : Calls Try.prog 27 #[.int .i64 a, .int .i64 b] w (Tells w (.int .i64 (sorts a b))) := by
  unfold sorts
  go_enter Try.func27, Try.ntmps27
  go_wp2_with fail
  refine (bits_c _ _).mono ?_; rintro e w1 ⟨rfl, h1⟩
  have H1 := Lib.hid h1; clear h1
  go_wp2_with fail
  refine (mul_c _ _ _).mono ?_; rintro e w2 ⟨rfl, h2⟩
  have H2 := Lib.hid (below_step H1.out h2); clear h2 H1
  go_wp2_with fail
  refine (add2_c _ _ _).mono ?_; rintro e w3 ⟨rfl, h3⟩
  have H3 := Lib.hid (below_step H2.out h3); clear h3 H2
  go_wp2
  go_ret
  exact ⟨rfl, H3.out⟩
set_option maxHeartbeats 1000000 in
theorem rsort_c (a b : Int) (w : World) : Calls Try.prog 28 #[.int .i64 a, .int .i64 b] w (Tells w (.int .i64 (sorts a b))) := by
  unfold sorts
  go_enter Try.func28, Try.ntmps28
  go_wp2_with fail
  refine (rbits_c _ _).mono ?_; rintro e w1 ⟨rfl, h1⟩
  have H1 := Lib.hid h1; clear h1
  go_wp2_with fail
  refine (rmul_c _ _ _).mono ?_; rintro e w2 ⟨rfl, h2⟩
  have H2 := Lib.hid (below_step H1.out h2); clear h2 H1
  go_wp2_with fail
  refine (radd_c _ _ _).mono ?_; rintro e w3 ⟨rfl, h3⟩
  have H3 := Lib.hid (below_step H2.out h3); clear h3 H2
  go_wp2
  go_ret
  exact ⟨rfl, H3.out⟩
end Go.Proofs.Ytiaiogmicllllaa.Cx
