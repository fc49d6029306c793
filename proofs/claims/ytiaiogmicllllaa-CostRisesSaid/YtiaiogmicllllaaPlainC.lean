/- The plain arithmetic of costs: sums and products that stop at 2^52, so many of a thousand, binary digits; no program in it. -/
import Derived.RowKit
namespace Go.Proofs.Ytiaiogmicllllaa.PlainC
open Go.RowKit

def fit (n : Int) : Int := if n < 0 then 0 else if 4503599627370496 < n then 4503599627370496 else n
theorem fit_bd (n : Int) : 0 ≤ fit n ∧ fit n ≤ 4503599627370496 := by unfold fit; split <;> (try split) <;> omega
theorem fit_id (n : Int) (h0 : 0 ≤ n) (h1 : n ≤ 4503599627370496) : fit n = n := by unfold fit; rw [if_neg (by omega), if_neg (by omega)]
theorem fit_most (n : Int) (h : 4503599627370496 ≤ n) : fit n = 4503599627370496 := by
  unfold fit; rw [if_neg (by omega)]; split <;> omega
theorem fit_fit (n : Int) : fit (fit n) = fit n := fit_id _ (fit_bd n).1 (fit_bd n).2
theorem fit_mono (a b : Int) (h : a ≤ b) : fit a ≤ fit b := by
  unfold fit; repeat' split
  all_goals omega

def add (a b : Int) : Int := fit (fit a + fit b)
def mul (a b : Int) : Int := fit (fit a * fit b)
theorem add_bd (a b : Int) : 0 ≤ add a b ∧ add a b ≤ 4503599627370496 := fit_bd _
theorem mul_bd (a b : Int) : 0 ≤ mul a b ∧ mul a b ≤ 4503599627370496 := fit_bd _
theorem add_mono (a b c d : Int) (h : a ≤ c) (k : b ≤ d) : add a b ≤ add c d := by
  have := fit_mono a c h; have := fit_mono b d k
  exact fit_mono _ _ (by omega)
theorem mul_mono (a b c d : Int) (h : a ≤ c) (k : b ≤ d) : mul a b ≤ mul c d := by
  have h1 := fit_mono a c h; have h2 := fit_mono b d k
  have := fit_bd a; have := fit_bd b
  exact fit_mono _ _ (Int.mul_le_mul h1 h2 (by omega) (by omega))
theorem mul_fit_right (a b : Int) : mul a (fit b) = mul a b := by unfold mul; rw [fit_fit]
theorem add_fit_right (a b : Int) : add a (fit b) = add a b := by unfold add; rw [fit_fit]

theorem wrap64_in (n : Int) (h0 : -9223372036854775808 ≤ n) (h1 : n ≤ 9223372036854775807) : wrap64 n = n := by
  unfold wrap64; omega
theorem wrap64_add (a b : Int) : wrap64 (fit a + fit b) = fit a + fit b := by
  have := fit_bd a; have := fit_bd b
  exact wrap64_in _ (by omega) (by omega)

/-- a product as the program makes it: by a division first -/
theorem mul_prog (a b : Int) :
    (if fit a > 0 then (if fit a = 0 then (none : Option Int) else (if fit b > wrap64 ((4503599627370496 : Int) / fit a) then some 4503599627370496 else some (wrap64 (fit a * fit b)))) else some (wrap64 (fit a * fit b))) = some (mul a b) := by
  have ha := fit_bd a
  have hb := fit_bd b
  unfold mul
  generalize fit a = x at *
  generalize fit b = y at *
  by_cases hx : x > 0
  · rw [if_pos hx, if_neg (by omega)]
    have hd := Int.mul_ediv_add_emod 4503599627370496 x
    have hm1 := Int.emod_nonneg 4503599627370496 (show x ≠ 0 by omega)
    have hm2 := Int.emod_lt_of_pos 4503599627370496 hx
    have hq0 : 0 ≤ (4503599627370496 : Int) / x := Int.ediv_nonneg (by omega) (by omega)
    have hq1 : (4503599627370496 : Int) / x ≤ 4503599627370496 := by
      have := Int.mul_le_mul_of_nonneg_right (show (1 : Int) ≤ x by omega) hq0
      omega
    rw [wrap64_in _ (by omega) (by omega)]
    generalize (4503599627370496 : Int) / x = q at *
    generalize (4503599627370496 : Int) % x = m at *
    by_cases hy : y > q
    · rw [if_pos hy]
      have h : x * (q + 1) ≤ x * y := Int.mul_le_mul_of_nonneg_left (by omega) (by omega)
      rw [Int.mul_add] at h
      rw [fit_most _ (by omega)]
    · rw [if_neg hy]
      have h : x * y ≤ x * q := Int.mul_le_mul_of_nonneg_left (by omega) (by omega)
      have h0 : 0 ≤ x * y := Int.mul_nonneg ha.1 hb.1
      rw [wrap64_in _ (by omega) (by omega), fit_id _ h0 (by omega)]
  · rw [if_neg hx]
    obtain rfl : x = 0 := by omega
    rw [Int.zero_mul]; decide

theorem add3_prog (a b c : Int) : fit (fit (fit (0 + fit a) + fit b) + fit c) = add (add a b) c := by
  unfold add; rw [Int.zero_add, fit_fit, fit_fit]
theorem add2_prog (a b : Int) : fit (fit (0 + fit a) + fit b) = add a b := by
  unfold add; rw [Int.zero_add, fit_fit]

/-- a round of the reference's product, its digit being 1 -/
theorem mul_odd (a b n : Int) (ha : 0 ≤ a) (hb : 0 < b) (hn : 0 ≤ n) (hn1 : n ≤ 4503599627370496) (ha1 : a ≤ 4503599627370496) (hodd : Int.tmod b 2 = 1) :
    fit (add n a + add a a * (Int.tdiv b 2)) = fit (n + a * b) := by
  rw [Int.tmod_eq_emod_of_nonneg (by omega)] at hodd
  rw [Int.tdiv_eq_ediv_of_nonneg (by omega)]
  obtain ⟨c, hc⟩ : ∃ c, c = b / 2 := ⟨_, rfl⟩
  have hb2 : b = 2 * c + 1 := by omega
  have hc0 : 0 ≤ c := by omega
  rw [← hc]; clear hc hodd; subst hb2
  have e : a * (2 * c + 1) = a + (2 * a) * c := by rw [Int.mul_add, Int.mul_one, ← Int.mul_assoc, Int.mul_comm a 2]; omega
  rw [e]
  have hac : 0 ≤ (2 * a) * c := Int.mul_nonneg (by omega) hc0
  unfold add
  rw [fit_id n hn hn1, fit_id a ha ha1]
  by_cases h1 : n + a ≥ 4503599627370496
  · rw [fit_most (n + a) h1]
    have h := (fit_bd (a + a)).1
    have h2 : 0 ≤ fit (a + a) * c := Int.mul_nonneg h hc0
    rw [fit_most _ (by omega), fit_most _ (by omega)]
  · rw [fit_id (n + a) (by omega) (by omega)]
    by_cases h2 : a + a ≥ 4503599627370496
    · rw [fit_most (a + a) h2]
      by_cases h3 : c = 0
      · subst h3; simp
      · have h4 : (2 * a) * 1 ≤ (2 * a) * c := Int.mul_le_mul_of_nonneg_left (by omega) (by omega)
        rw [fit_most _ (by omega), fit_most _ (by omega)]
    · rw [fit_id (a + a) (by omega) (by omega), show a + a = 2 * a by omega, Int.add_assoc]
theorem mul_even (a b n : Int) (ha : 0 ≤ a) (hb : 0 < b) (hn : 0 ≤ n) (_hn1 : n ≤ 4503599627370496) (ha1 : a ≤ 4503599627370496) (hodd : ¬ Int.tmod b 2 = 1) :
    fit (n + add a a * (Int.tdiv b 2)) = fit (n + a * b) := by
  rw [Int.tmod_eq_emod_of_nonneg (by omega)] at hodd
  rw [Int.tdiv_eq_ediv_of_nonneg (by omega)]
  obtain ⟨c, hc⟩ : ∃ c, c = b / 2 := ⟨_, rfl⟩
  have hb2 : b = 2 * c := by omega
  have hc0 : 0 < c := by omega
  rw [← hc]; clear hc hodd; subst hb2
  have e : a * (2 * c) = (2 * a) * c := by rw [← Int.mul_assoc, Int.mul_comm a 2]
  rw [e]
  unfold add
  rw [fit_id a ha ha1]
  have h4 : (2 * a) * 1 ≤ (2 * a) * c := Int.mul_le_mul_of_nonneg_left (by omega) (by omega)
  by_cases h2 : a + a ≥ 4503599627370496
  · rw [fit_most (a + a) h2]
    rw [fit_most _ (by omega), fit_most _ (by omega)]
  · rw [fit_id (a + a) (by omega) (by omega), show a + a = 2 * a by omega]
theorem half_le (b : Int) (h : 0 < b) : 0 ≤ Int.tdiv b 2 ∧ Int.tdiv b 2 ≤ b := by
  rw [Int.tdiv_eq_ediv_of_nonneg (by omega)]; omega
theorem half_lt (b : Int) (j : Nat) (h : 0 < b) (hb : b < 2 ^ (j + 1)) : Int.tdiv b 2 < 2 ^ j := by
  rw [Int.tdiv_eq_ediv_of_nonneg (by omega)]; rw [Int.pow_succ] at hb; omega

/-- so many of a thousand -/
theorem part_eq (n t : Int) (h0 : 0 ≤ n) (h1 : n ≤ 4503599627370496) (t0 : 0 ≤ t) (t1 : t ≤ 1000) :
    wrap64 ((wrap64 ((wrap64 (Int.tdiv n 1000)) * t)) + (wrap64 (Int.tdiv (wrap64 ((Int.tmod n 1000) * t)) 1000))) = wrap64 (Int.tdiv (wrap64 (n * t)) 1000) := by
  rw [Int.tdiv_eq_ediv_of_nonneg h0, Int.tmod_eq_emod_of_nonneg h0]
  obtain ⟨q, hq⟩ : ∃ q, q = n / 1000 := ⟨_, rfl⟩
  obtain ⟨r, hr⟩ : ∃ r, r = n % 1000 := ⟨_, rfl⟩
  have hn : n = 1000 * q + r := by omega
  have hq0 : 0 ≤ q := by omega
  have hq1 : q ≤ 4503599627371 := by omega
  have hr0 : 0 ≤ r := by omega
  have hr1 : r < 1000 := by omega
  rw [← hq, ← hr]; clear hq hr
  have hqt : 0 ≤ q * t := Int.mul_nonneg hq0 t0
  have hqt1 : q * t ≤ 4503599627371 * 1000 := Int.mul_le_mul hq1 t1 t0 (by omega)
  have hrt : 0 ≤ r * t := Int.mul_nonneg hr0 t0
  have hrt1 : r * t ≤ 1000 * 1000 := Int.mul_le_mul (by omega) t1 t0 (by omega)
  have hnt : n * t = 1000 * (q * t) + r * t := by rw [hn, Int.add_mul, Int.mul_assoc]
  rw [hnt]
  rw [wrap64_in q (by omega) (by omega), wrap64_in (q * t) (by omega) (by omega), wrap64_in (r * t) (by omega) (by omega), wrap64_in (1000 * (q * t) + r * t) (by omega) (by omega),
    Int.tdiv_eq_ediv_of_nonneg hrt, Int.tdiv_eq_ediv_of_nonneg (by omega : 0 ≤ 1000 * (q * t) + r * t)]
  generalize q * t = u at *
  generalize r * t = v at *
  rw [wrap64_in (v / 1000) (by omega) (by omega)]
  congr 1; omega

/-- binary digits -/
def bl (n : Nat) : Nat := if h : n = 0 then 0 else bl (n / 2) + 1
theorem bl_zero : bl 0 = 0 := by rw [bl]; rfl
theorem bl_pos (n : Nat) (h : n ≠ 0) : bl n = bl (n / 2) + 1 := by rw [bl, dif_neg h]
theorem pow_le_iff (n : Nat) : ∀ c, 2 ^ c ≤ n ↔ c < bl n := by
  induction n using Nat.strongRecOn with
  | _ n ih =>
    intro c
    by_cases h : n = 0
    · subst h; rw [bl_zero]
      have := Nat.pow_pos (n := c) (show 0 < 2 by omega)
      omega
    · rw [bl_pos n h]
      cases c with
      | zero => simp; omega
      | succ c =>
        have := ih (n / 2) (by omega) c
        rw [Nat.pow_succ]; omega
theorem bl_lt (n c : Nat) (h : n < 2 ^ c) : bl n ≤ c := by
  have := pow_le_iff n c; omega
theorem bl_mono (a b : Nat) (h : a ≤ b) : bl a ≤ bl b := by
  refine Nat.le_of_not_lt fun hlt => ?_
  have h1 := (pow_le_iff a (bl b)).2 hlt
  have h2 := pow_le_iff b (bl b)
  omega
theorem bl_le (n : Int) : bl (fit n).toNat ≤ 53 := by
  have := fit_bd n
  exact bl_lt _ _ (by omega)

def bits (n : Int) : Int := (bl (fit n).toNat : Int)
theorem bits_bd (n : Int) : 0 ≤ bits n ∧ bits n ≤ 53 := by unfold bits; have := bl_le n; omega
theorem bits_mono (a b : Int) (h : a ≤ b) : bits a ≤ bits b := by
  unfold bits; have h1 := fit_mono a b h; have := fit_bd a
  have := bl_mono (fit a).toNat (fit b).toNat (by omega)
  omega

end Go.Proofs.Ytiaiogmicllllaa.PlainC
