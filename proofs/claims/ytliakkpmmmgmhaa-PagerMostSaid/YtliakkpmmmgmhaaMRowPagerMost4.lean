/- Parts of the proof, put together: Wal4, Wal5, Wal6, Wal2, Wal2b, Wal7. -/
import Derived.Test.YtliakkpmmmgmhaaMRowPagerMost3
import Derived.Deep.QuietTactic
import Derived.BigQuiet
import Derived.Deep.RegionHeld3
/- The records of bytes. -/
namespace Go.Proofs.Ytliakkpmmmgmhaa
open Go.RowKit

theorem infoS : (Try.prog.info? 31).map (fun i => (i.zero, i.size, i.bytes)) = some (some (.slice none 0 0), 1, 24) := by kernel_rfl
/-- A slice of the call's own of slices of bytes. -/
def RecsOwn (b0 : Nat) (w' : World) (v : Value) (recs : List (List UInt8)) : Prop :=
  ∃ xs : List Value, w'.ownsRow b0 31 1 v recs.length xs ∧ ∀ (i : Nat) (s : List UInt8), recs[i]? = some s → ∃ (A : Option Addr) (c : Nat), xs[i]? = some (Value.slice A s.length c) ∧ Bs 5 w' A s.length c s
theorem RecsOwn.nil (b0 : Nat) (w : World) : RecsOwn b0 w (.slice none 0 0) [] := ⟨[], World.ownsRow_nil _ _ _ _, fun i s h => by simp at h⟩
theorem RecsOwn.xs_len {b0 : Nat} {w : World} {v : Value} {recs : List (List UInt8)} {xs : List Value} (h : w.ownsRow b0 31 1 v recs.length xs) : xs.length = recs.length := by have := h.1; omega
theorem ownsRow_below {w w' : World} {b : Nat} {e : TypeId} {size n : Nat} {v : Value} {xs : List Value} (h : w.ownsRow b e size v n xs) (k : Below w.heap.size w w') : w'.ownsRow b e size v n xs :=
  h.kept (row := none) ⟨k.os, k.tape, k.output, k.size, fun i hi _ => k.block i hi⟩ (by
    rcases h.2 with ⟨rfl, _⟩ | ⟨g, cap, cur, rfl, _⟩
    · exact .inl rfl
    · exact .inr (by simp [Value.ownBlock]))
theorem RecsOwn.below {b0 : Nat} {w w' : World} {v : Value} {recs : List (List UInt8)} (h : RecsOwn b0 w v recs) (k : Below w.heap.size w w') : RecsOwn b0 w' v recs := by
  obtain ⟨xs, h1, h2⟩ := h
  refine ⟨xs, ownsRow_below h1 k, fun i s hs => ?_⟩
  obtain ⟨A, c, h3, h4⟩ := h2 i s hs
  exact ⟨A, c, h3, h4.below k⟩
theorem RecsOwn.snoc {b0 : Nat} {w w' : World} {v v' : Value} {recs : List (List UInt8)} {s : List UInt8} {A : Option Addr} {c : Nat} {xs : List Value}
    (h1 : w.ownsRow b0 31 1 v recs.length xs) (h2 : ∀ (i : Nat) (s : List UInt8), recs[i]? = some s → ∃ (A : Option Addr) (c : Nat), xs[i]? = some (Value.slice A s.length c) ∧ Bs 5 w' A s.length c s)
    (h3 : w'.ownsRow b0 31 1 v' (recs.length + 1) (xs ++ [Value.slice A s.length c])) (h4 : Bs 5 w' A s.length c s) : RecsOwn b0 w' v' (recs ++ [s]) := by
  have hl := RecsOwn.xs_len h1
  refine ⟨xs ++ [Value.slice A s.length c], by rw [List.length_append]; exact h3, fun i t ht => ?_⟩
  by_cases hi : i < recs.length
  · rw [List.getElem?_append_left hi] at ht
    obtain ⟨A1, c1, h5, h6⟩ := h2 i t ht
    exact ⟨A1, c1, by rw [List.getElem?_append_left (by omega)]; exact h5, h6⟩
  · rw [List.getElem?_append_right (by omega)] at ht
    have hi2 : i - recs.length = 0 := by
      have := (List.getElem?_eq_some_iff.1 ht).1
      simp at this; omega
    rw [hi2] at ht
    simp at ht; subst ht
    exact ⟨A, c, by rw [List.getElem?_append_right (by omega), hl, hi2]; rfl, h4⟩
theorem own_not8 {w : World} {b : Nat} {t t' : TypeId} {size n : Nat} {v : Value} {xs : List Value} (h : w.ownsRow b t size v n xs) (hne : t ≠ t') : ∀ g, v.ownBlock = some g → Not8 t' w g := by
  intro g hg
  rcases h.2 with ⟨rfl, _⟩ | ⟨g', cap, cur, rfl, _, hh, _⟩
  · simp [Value.ownBlock] at hg
  · have : g' = g := by simpa [Value.ownBlock] using hg
    subst this
    exact Blk.not8 (t' := t) hh hne
def sliceN : Value → Nat
  | .slice _ n _ => n
  | _ => 0
def ParseDone (w : World) (recs : List (List UInt8)) (e : Ending) (w' : World) : Prop :=
  ∃ v, e = .returned (.tuple #[v, .int .i64 0]) ∧ RecsOwn w.heap.size w' v recs ∧ Below w.heap.size w w'

/-- The loop of parse under way. -/
def ParseRel (w : World) (recs : List (List UInt8)) (x v : Value) (wr : World) : Prop :=
  ∃ (A' : Option Addr) (n' c' : Nat) (ds rest : List (List UInt8)), n' ≤ 1000000 ∧ x = .slice A' n' c' ∧ Hid (ds ++ rest = recs) ∧ Hid (Bs 5 wr A' n' c' (frames rest)) ∧ Hid (RecsOwn w.heap.size wr v ds) ∧ Hid (Below w.heap.size w wr)
set_option linter.unusedSimpArgs false in
set_option maxRecDepth 100000 in
set_option maxHeartbeats 8000000 in
theorem parse_c (A : Option Addr) (n c : Nat) (recs : List (List UInt8)) (w : World) (h : Bs 5 w A n c (frames recs)) (hn : n ≤ 1000000) (hr : ∀ s ∈ recs, 0 < s.length) (hcn : recs.length ≤ 1000000) :
    Calls Try.prog 80 #[.slice A n c] w (ParseDone w recs) := by
  have HR := Lib.hid hr
  have H0 := Lib.hid (And.intro h hn)
  obtain ⟨i0, hi, hz, hs, hb⟩ := info_parts infoS
  have HI := Lib.hid (And.intro hi (And.intro hz (And.intro hs hb)))
  clear hi hz hs hb h hn hr
  go_enter Try.func80, Try.ntmps80
  go_wp2_with fail
  go_loopw [0, 4] (fun x v wr => ParseRel w recs x v wr) (fun x _ _ => sliceN x)
  case atStart => exact ⟨A, n, c, [], recs, H0.out.2, rfl, rfl, H0.out.1, RecsOwn.nil _ _, Below.refl _ _⟩
  case round =>
    clear H0
    obtain ⟨A', n', c', ds, rest, hn', rfl, HE, HB, HO, HW⟩ := hrel
    cases rest with
    | nil =>
      have h0 : n' = 0 := by rw [← HB.out.len]; rfl
      subst h0
      have e : ds = recs := by have := HE.out; simpa using this
      subst e
      obtain ⟨xs, ho, _⟩ := HO.out
      obtain ⟨A2, c2, rfl, _⟩ := own_form ho
      clear ho
      go_wp2_with fail
      go_ret2
      exact ⟨_, rfl, HO.out, HW.out⟩
    | cons s rest =>
      have hmem : s ∈ recs := by rw [← HE.out]; simp
      have hs0 := HR.out s hmem
      have hfl := HB.out.len
      rw [frames_cons, List.length_append, frameB_len] at hfl
      obtain ⟨k, hk⟩ : ∃ k, k = (numB s.length).length := ⟨_, rfl⟩
      rw [← hk] at hfl
      have hk1 : k ≤ 10 := by rw [hk]; exact numB_ten (by omega)
      have hk0 : 1 ≤ k := by rw [hk]; exact numB_pos _
      have hscan : scan (frames (s :: rest)) = .inl (s.length, k) := by rw [frames_cons, hk]; exact scan_frame s _ (by omega)
      obtain ⟨sl, hsl⟩ : ∃ sl, sl = s.length := ⟨_, rfl⟩
      rw [← hsl] at hscan hfl hs0
      obtain ⟨q, hq⟩ : ∃ q, q = n' - k := ⟨_, rfl⟩
      obtain ⟨K4, hK4⟩ : ∃ K4 : Nat, K4 = k + 4 := ⟨_, rfl⟩
      obtain ⟨E, hE⟩ : ∃ E : Nat, E = K4 + sl := ⟨_, rfl⟩
      have e1 : (n' : Int) - (q : Int) = (k : Int) := by omega
      have e2 : (k : Int) + 4 = (K4 : Int) := by omega
      have e3 : (K4 : Int) + (sl : Int) = (E : Int) := by omega
      have b1 : (n' : Int) ≤ 2097152 := by omega
      have b2 : (4 : Int) ≤ (q : Int) := by omega
      have b3 : ¬ ((q : Int) < 4) := by omega
      have b4 : ¬ ((q : Int) - 4 < (sl : Int)) := by omega
      have b5 : (q : Int) ≤ 2097152 := by omega
      have b6 : (0 : Int) < (n' : Int) := by omega
      have b7 : (E : Int) ≤ (n' : Int) := by omega
      have b8 : (K4 : Int) < (E : Int) := by omega
      have b9 : (sl : Int) ≤ 2097152 := by omega
      have b10 : (k : Int) ≤ 10 := by omega
      have b13 : ds.length ≤ 1000000 := by rw [← HE.out, List.length_append] at hcn; omega
      obtain ⟨g, o, rfl, _⟩ := HB.out.lt (by omega)
      have hcap := HB.out.cap
      have hmost := HB.out.most
      have b11 : (n' : Int) ≤ (c' : Int) := by omega
      have b12 : (c' : Int) ≤ 9223372036854775807 := by simp only [maxLen] at hmost; omega
      have hce : ¬ c' = K4 := by omega
      obtain ⟨xs, ho, hx⟩ := HO.out
      obtain ⟨A2, c2, rfl, hfr⟩ := own_form ho
      have hbs : Bs 5 wr (some ⟨g, o + K4, none⟩) (E - K4) (c' - K4) s := by
        have := HB.out.cut (lo := K4) (hi := E) (by omega) (by omega)
        rw [if_neg hce] at this
        have e : ((frames (s :: rest)).drop K4).take (E - K4) = s := by
          rw [frames_cons, hK4, hk, show E - ((numB s.length).length + 4) = s.length by omega]
          exact (frame_parts s (frames rest)).1
        rw [e] at this
        simpa [Addr.add_mid] using this
      have hbt : Bs 5 wr (some ⟨g, o, none⟩) E c' (frameB s) := by
        have := HB.out.take (k := E) (by omega)
        have e : (frames (s :: rest)).take E = frameB s := by
          rw [frames_cons, show E = (numB s.length).length + 4 + s.length by omega]
          exact (frame_parts s (frames rest)).2.1
        rw [e] at this; exact this
      have HX := Lib.hid (And.intro hs0 (And.intro hscan (And.intro hq (And.intro hsl (And.intro hk (And.intro hK4 (And.intro hE (And.intro hbs (And.intro hbt (And.intro ho (And.intro hx hfr)))))))))))
      clear hmem hs0 hfl hk0 hk1 hscan hsl hq hK4 hE hk hcap hmost hbs hbt ho hx hfr
      go_wp2_with fail
      refine (read_c _ n' c' _ _ HB.out (by omega)).mono ?_
      rintro e w1 ⟨r, Ar, cr, rfl, hrr, hrs, hb1⟩
      have H1 := Lib.hid (And.intro hrr (And.intro hrs hb1))
      clear hrr hrs hb1
      go_wp2_with fail
      refine (rnum_c r _ Ar cr w1 H1.out.1 (by rw [HB.out.len]; omega)).mono ?_
      rintro e w2 ⟨ht2, hm2⟩
      rw [HX.out.2.1] at hm2
      obtain ⟨rfl, hk2, hrr2⟩ := hm2
      have hb2 : Below wr.heap.size wr w2 := Turned.below ((Turned.of_below (S := fun _ => False) H1.out.2.2).trans ht2 (fun j hj e => absurd e (by have := hj; have := H1.out.2.1; omega)))
      have hql : ((frames (s :: rest)).drop k).length = q := by rw [List.length_drop, HB.out.len]; exact HX.out.2.2.1.symm
      have H2 := Lib.hid (And.intro hrr2 (And.intro hb2 hql))
      clear ht2 hk2 hrr2 hb2 hql
      go_wp2_with fail
      refine (left_c r _ _ _ _ w2 H2.out.1 (by rw [H2.out.2.2]; omega)).mono ?_
      rintro e w3 ⟨rfl, rfl⟩
      rw [H2.out.2.2]
      go_wp2_with fail
      refine (err_c r _ _ _ _ w2 H2.out.1).mono ?_
      rintro e w3 ⟨rfl, rfl⟩
      go_wp2_with fail
      refine (left_c r _ _ _ _ w2 H2.out.1 (by rw [H2.out.2.2]; omega)).mono ?_
      rintro e w3 ⟨rfl, rfl⟩
      rw [H2.out.2.2]
      go_wp2_with fail
      refine (left_c r _ _ _ _ w2 H2.out.1 (by rw [H2.out.2.2]; omega)).mono ?_
      rintro e w3 ⟨rfl, rfl⟩
      rw [H2.out.2.2]
      go_wp2_with fail
      have hS0 : (fun W : World => Bs 5 W (some ⟨g, o, none⟩) E c' (frameB s) ∧ Below wr.heap.size wr W) w2.drew := ⟨(HX.out.2.2.2.2.2.2.2.2.1.below H2.out.2.1).drew, H2.out.2.1.drew⟩
      have cv : ∀ W, Bs 5 W (some ⟨g, o, none⟩) E c' (frameB s) → (convert 31 9 (.slice (some ⟨g, o, none⟩) E c')).run Try.prog W = .ok (.string ⟨(frameB s).toArray⟩) W := fun W h => h.toString Try.underlying31 Try.underlying5 Try.underlying9
      have b7' : (E : Int) ≤ (c' : Int) := by omega
      refine wp_region_held_drew (S := (fun W : World => Bs 5 W (some ⟨g, o, none⟩) E c' (frameB s) ∧ Below wr.heap.size wr W)) (by kernel_rfl) hS0 (fun hHeld => ?_)
      clear hHeld
      refine wpAnyH_take (i := 0) (v := .slice (some ⟨g, o + K4, none⟩) (E - K4) (c' - K4)) rfl (by kernel_rfl) (by kernel_rfl) (by kernel_rfl) (fun _ _ _ h => h) (Or.inl ⟨by rfl, fun W hW => by go_simp⟩) hS0 ?_
      simp only [Act.put, List.setIfInBounds_toArray, List.set_cons_zero, List.set_cons_succ]
      refine wpAnyH_take (i := 3) (v := .slice (some ⟨g, o, none⟩) n' c') rfl (by kernel_rfl) (by kernel_rfl) (by kernel_rfl) (fun _ _ _ h => h) (Or.inl ⟨by rfl, fun W hW => by go_simp⟩) hS0 ?_
      simp only [Act.put, List.setIfInBounds_toArray, List.set_cons_zero, List.set_cons_succ]
      refine wpAnyH_take (i := 4) (v := .int .i64 (E : Int)) rfl (by kernel_rfl) (by kernel_rfl) (by kernel_rfl) (fun _ _ _ h => h) (Or.inl ⟨by rfl, fun W hW => by go_simp⟩) hS0 ?_
      simp only [Act.put, List.setIfInBounds_toArray, List.set_cons_zero, List.set_cons_succ]
      refine wpAnyH_take (i := 5) (v := .slice (some ⟨g, o, none⟩) E c') rfl (by kernel_rfl) (by kernel_rfl) (by kernel_rfl) (fun _ _ _ h => h) (Or.inl ⟨by rfl, fun W hW => by go_simp⟩) hS0 ?_
      simp only [Act.put, List.setIfInBounds_toArray, List.set_cons_zero, List.set_cons_succ]
      refine wpAnyH_take (i := 6) (v := .string ⟨(frameB s).toArray⟩) rfl (by kernel_rfl) (by kernel_rfl) (by kernel_rfl) (fun _ _ _ h => h) (Or.inl ⟨by rfl, fun W hW => by have h3 := cv W hW.1; simp [execOp, Act.eval, h3, Result.andThen]⟩) hS0 ?_
      simp only [Act.put, List.setIfInBounds_toArray, List.set_cons_zero, List.set_cons_succ]
      refine wpAnyH_ready (rs := [1]) (by kernel_rfl) (by simp) ?_
      refine AllReadyH.cons rfl (fun K1 hK1 => ?_) AllReadyH.nil
      go_simp
      refine (frame_c _ (E - K4) (c' - K4) s _ ((HX.out.2.2.2.2.2.2.2.1.below H2.out.2.1).drew) (by omega)).mono ?_
      rintro e w4 ⟨A4, c4, rfl, ho4, hb4⟩
      have hc4 := (Bs.of_own ho4).toString (P := Try.prog) (src := 31) (dst := 9) Try.underlying31 Try.underlying5 Try.underlying9
      have hS1 : (fun W : World => Bs 5 W (some ⟨g, o, none⟩) E c' (frameB s) ∧ Below wr.heap.size wr W) w4 := ⟨Bs.below hS0.1 hb4, Below.trans hS0.2 (hb4.mono hS0.2.size)⟩
      refine hK1.out _ _ hS1 (fun _ => ?_)
      refine wpAnyH_ready (rs := [2]) (by kernel_rfl) (by simp) ?_
      refine AllReadyH.cons rfl (fun K2 hK2 => ?_) AllReadyH.nil
      refine step_value (w' := w4) (v := .string ⟨(frameB s).toArray⟩) (by rfl) (by simp [execOp, Act.eval, hc4, Result.andThen]) ?_
      refine hK2.out _ _ hS1 (fun _ => ?_)
      simp only [Act.put, List.setIfInBounds_toArray, List.set_cons_zero, List.set_cons_succ]
      refine wpAnyH_take (i := 7) (v := .bool false) rfl (by kernel_rfl) (by kernel_rfl) (by kernel_rfl) (fun _ _ _ h => h) (Or.inl ⟨by rfl, fun W hW => by go_simp⟩) hS1 ?_
      simp only [Act.put, List.setIfInBounds_toArray, List.set_cons_zero, List.set_cons_succ]
      refine wpAnyH_done (by kernel_rfl) ?_ _
      have H4 := Lib.hid hS1.2
      clear hS0 hS1 cv hc4 ho4 hb4 H2 H1
      go_wp2_with fail
      refine (clone_c _ (E - K4) (c' - K4) s _ (HX.out.2.2.2.2.2.2.2.1.below H4.out) (by omega)).mono ?_
      rintro e w5 ⟨v5, rfl, hf5, hb5⟩
      obtain ⟨A5, n5, c5, rfl, hB5, _⟩ := hf5
      have hn5 : n5 = sl := by rw [← hB5.len]; exact HX.out.2.2.2.1.symm
      subst hn5
      have H5 := Lib.hid (And.intro hB5 (H4.out.trans (hb5.mono H4.out.size)))
      clear hB5 hb5 H4
      go_wp2_with (
        (refine at_dst 60 rfl ?_)
        (refine wpList_append_rd rfl (.tmp 56) (.tmp 59) 91 rfl Try.underlying91 HI.out.1 HI.out.2.1 HI.out.2.2.1 HI.out.2.2.2 rfl (by decide) w.heap.size (.slice A2 ds.length c2) rfl ((ownsRow_below HX.out.2.2.2.2.2.2.2.2.2.1 H5.out.2).alloc _) rfl (Rd.of_blk (n := 1) (c := 1) (sz := 1) (Blk.new w5 _ #[.slice A5 n5 c5]) (Nat.le_refl _) (by simp [maxLen]) (by simp)) (by intro u hu; simp at hu; subst hu; rfl) ?_ ?_ (by have := HW.out.size; have := H5.out.2.size; simp; omega) ?_)
        · simp only [maxLen]; omega
        · omega
        intro v6 w6 hown6 hgr6 _
        have hown5 := (ownsRow_below HX.out.2.2.2.2.2.2.2.2.2.1 H5.out.2).alloc (.cells #[.slice A5 n5 c5] 31)
        have h8 := own_not8 (t' := 5) hown5 (by decide)
        have hW6 : Below w.heap.size w w6 := ((HW.out.trans (H5.out.2.mono HW.out.size)).alloc (by have := HW.out.size; have := H5.out.2.size; omega) _).grown hgr6 (by have := HW.out.size; have := H5.out.2.size; simp; omega) HX.out.2.2.2.2.2.2.2.2.2.2.2
        have hB6 : Bs 5 w6 (some ⟨g, o, none⟩) n' c' (frames (s :: rest)) := ((HB.out.below H5.out.2).alloc _).grown hgr6 h8
        have hO6 : RecsOwn w.heap.size w6 v6 (ds ++ [s]) := by
          refine RecsOwn.snoc (A := A5) (c := c5) hown5 (fun i t ht => ?_) (by rw [← HX.out.2.2.2.1]; simpa using hown6) (by rw [← HX.out.2.2.2.1]; exact (H5.out.1.alloc _).grown hgr6 h8)
          obtain ⟨A, c, h1, h2⟩ := HX.out.2.2.2.2.2.2.2.2.2.2.1 i t ht
          exact ⟨A, c, h1, ((h2.below H5.out.2).alloc _).grown hgr6 h8⟩
        have H6 := Lib.hid (And.intro hW6 (And.intro hB6 hO6))
        clear hown6 hgr6 hown5 h8 hW6 hB6 hO6)
      have hcut := H6.out.2.1.cut (lo := E) (hi := n') (by omega) (Nat.le_refl _)
      have hrest : ((frames (s :: rest)).drop E).take (n' - E) = frames rest := by
        have hl := H6.out.2.1.len
        have hEE : E = (numB s.length).length + 4 + s.length := by
          have h4 := HX.out.2.2.2.1
          have h5 := HX.out.2.2.2.2.1
          have h6 := HX.out.2.2.2.2.2.1
          have h7 := HX.out.2.2.2.2.2.2.1
          omega
        rw [frames_cons] at hl ⊢
        rw [hEE, (frame_parts s (frames rest)).2.2]
        apply List.take_of_length_le
        rw [List.length_append, frameB_len] at hl
        omega
      rw [hrest] at hcut
      by_cases hcE : c' = E
      · rw [if_pos hcE, show c' - E = 0 by omega] at hcut
        have HCU := Lib.hid hcut
        clear hcut hrest
        go_wp2_with fail
        go_roundw
        case rel => exact ⟨_, _, _, ds ++ [s], rest, by omega, rfl, by show _ = _; rw [← HE.out]; simp, HCU.out, H6.out.2.2, H6.out.1⟩
        case measure => simp [sliceN]; omega
      · rw [if_neg hcE, Option.map_some, Addr.add_mid, Nat.mul_one] at hcut
        have HCU := Lib.hid hcut
        clear hcut hrest
        go_wp2_with fail
        go_roundw
        case rel => exact ⟨_, _, _, ds ++ [s], rest, by omega, rfl, by show _ = _; rw [← HE.out]; simp, HCU.out, H6.out.2.2, H6.out.1⟩
        case measure => simp [sliceN]; omega
end Go.Proofs.Ytliakkpmmmgmhaa
/- The journal on the disk; slices.Clone as bytes of one's own; Reset. -/
namespace Go.Proofs.Ytliakkpmmmgmhaa
open Go.RowKit

set_option maxHeartbeats 1000000 in
set_option maxRecDepth 100000 in
theorem clone_own {tb : TypeId} (A : Option Addr) (n c : Nat) (l : List UInt8) (w : World) (h : Bs tb w A n c l) (hn : n ≤ 140737488351232) :
    Calls Try.prog 27 #[.slice A n c] w (GivesOwn w l) := by
  have HH := Lib.hid h
  have HN := Lib.hid hn
  have hl := Lib.hid h.len
  clear h hn
  have hq := fun W => Lib.run_eql_slice_nil (P := Try.prog) W 31 5 A n c 0 0 Try.underlying31
  obtain ⟨i0, hi, hz, hs, hb⟩ := info_parts info8
  have HI := Lib.hid (And.intro hi (And.intro hz (And.intro hs hb)))
  clear hi hz hs hb
  cases A with
  | none =>
    go_enter Try.func27, Try.ntmps27
    go_wp2
    go_ret
    obtain rfl : l = [] := by
      have hl := HH.out.len
      rcases HH.out.row with h0 | ⟨g, o, cs, fr, hA, _⟩
      · exact List.eq_nil_of_length_eq_zero (by omega)
      · cases hA
    exact ⟨none, 0, rfl, World.ownsRow_nil _ _ _ _, Below.refl _ _⟩
  | some ad =>
    go_enter Try.func27, Try.ntmps27
    go_wp2_with (
      (refine at_dst 7 rfl ?_)
      (refine wpList_append_bs rfl (.tmp 5) (.tmp 6) 31 rfl Try.underlying31 HI.out.1 HI.out.2.1 HI.out.2.2.1 HI.out.2.2.2 w.heap.size (.slice (some ⟨w.heap.size, 0, none⟩) 0 0) rfl (World.ownsRow_made w #[] 0 (Nat.le_refl _) (Nat.zero_le _) rfl) rfl (HH.out.alloc _) (by have := HN.out; omega) (by simp) ?_)
      intro v1 w1 hown1 hgr1 hat1)
    go_ret
    have hown : w1.ownsRow w.heap.size 5 1 v1 l.length (u8s l) := by rw [hl.out]; simpa using hown1
    obtain ⟨A2, c2, rfl, _⟩ := own_form hown
    exact ⟨A2, c2, rfl, hown, ((Below.refl _ _).alloc (Nat.le_refl _) _).grown hgr1 (by simp) (by simp [Value.ownBlock])⟩

/-- A block of which right tells what rightM does: a head, or one whose first half is none. -/
def RightOk (b : List UInt8) (room : Nat) : Prop := b.length = 512 ∧ (1 ≤ (rightM b room).1 ∨ b.take 24 ≠ halfB (lowN ((b.drop 8).take 8)) (lowN ((b.drop 16).take 8)))
/-- The journal as it lies on the blocks N. -/
structure LogDisk (N : List (List UInt8)) (J : LogG) : Prop where
  pos : 1 ≤ J.seq
  head : ∃ z, N[J.frm + J.seq % 2]? = some (headB J.seq J.data.length ++ z) ∧ z.length = 464
  other : ∀ b, N[J.frm + (J.seq + 1) % 2]? = some b → (rightM b J.room).1 < J.seq ∧ RightOk b J.room
  data : ∀ k, k * 512 < J.data.length → ∃ z, N[J.frm + 2 + k]? = some ((J.data.drop (k * 512)).take 512 ++ z)
/-- Blocks that are not the journal's are as they were. -/
def SameOut (N N' : List (List UInt8)) (J : LogG) : Prop := ∀ i, i < J.frm ∨ J.frm + 2 + J.room / 512 ≤ i → N'[i]? = N[i]?
theorem LogDisk.next {N N' : List (List UInt8)} {J : LogG} {n : Nat} {data : List UInt8} {A : Option Addr} {c : Nat} {count : Int} (h : LogDisk N J) (hroom : J.room ≤ 2097152) (hs : J.seq ≤ 4611686018427387904) (hd : J.data.length ≤ J.room) (hl : J.frm + 1 < N'.length)
    (h0 : ∀ i, i < 2 → N'[J.frm + i]? = N[J.frm + i]?) (hn : n = data.length)
    (hdata : ∀ k, k * 512 < data.length → ∃ z, N'[J.frm + 2 + k]? = some ((data.drop (k * 512)).take 512 ++ z)) (z : List UInt8) (hz : z.length = 464) :
    LogDisk (N'.set (J.frm + (J.seq + 1) % 2) (headB (J.seq + 1) n ++ z)) { J with seq := J.seq + 1, data := data, A := A, c := c, count := count } := by
  subst hn
  have m1 : (J.seq + 1) % 2 < 2 := Nat.mod_lt _ (by decide)
  refine ⟨by show 1 ≤ J.seq + 1; omega, ⟨z, ?_, hz⟩, fun b hb => ?_, fun k hk => ?_⟩
  · show (N'.set _ _)[J.frm + (J.seq + 1) % 2]? = _
    rw [List.getElem?_set_self (by omega)]
  · have hb' : (N'.set (J.frm + (J.seq + 1) % 2) (headB (J.seq + 1) data.length ++ z))[J.frm + (J.seq + 1 + 1) % 2]? = some b := hb
    have e : (J.seq + 1 + 1) % 2 = J.seq % 2 := by omega
    rw [e, List.getElem?_set_ne (by omega), h0 _ (Nat.mod_lt _ (by decide))] at hb'
    obtain ⟨z', hz', hzl⟩ := h.head
    rw [hz'] at hb'
    injection hb' with hb'
    subst hb'
    show (rightM _ J.room).1 < J.seq + 1 ∧ RightOk _ J.room
    unfold RightOk
    rw [rightM_head _ _ _ _ h.pos hs hd (by omega)]
    exact ⟨Nat.lt_succ_self _, by rw [List.length_append, headB_len, hzl], .inl h.pos⟩
  · show ∃ z', (N'.set _ _)[J.frm + 2 + k]? = _
    rw [List.getElem?_set_ne (by omega)]
    exact hdata k hk

/-- A step of a journal and its disk. -/
structure LStep (w w' : World) (D D' : DiskG) (J J' : LogG) : Prop where
  disk : DiskRep w' D'
  log : LogRep w' D.d J'
  turned : Turned (fun k => k = D.d ∨ k = D.bb ∨ k = J.b) w w'
  d : D'.d = D.d
  bb : D'.bb = D.bb
  b : J'.b = J.b
  frm : J'.frm = J.frm
  room : J'.room = J.room
  len : D'.L.length = D.L.length
  live : D'.Live
  sync : D'.sync
  on : LogDisk D'.now J'
  out : SameOut D.now D'.now J

set_option maxRecDepth 100000 in
set_option maxHeartbeats 4000000 in
theorem reset_c (D : DiskG) (J : LogG) (w : World) (hD : DiskRep w D) (hJ : LogRep w D.d J) (hL : D.Live) (hW : D.W.length ≤ 100000) (hs : J.seq < 4611686018427387904) (hi : J.frm + 1 < D.L.length) (hon : LogDisk D.now J) :
    Calls Try.prog 72 #[.pointer (some ⟨J.b, 0, none⟩)] w fun e w' => e = .returned (.int .i64 0) ∧ ∃ D' J', LStep w w' D D' J J' ∧ J'.seq = J.seq + 1 ∧ J'.data = [] := by
  have hbr := lbroken_c D.d J w hJ
  have hm2 : (J.seq + 1) % 2 < 2 := Nat.mod_lt _ (by decide)
  have hhd := head_c D J (J.seq + 1) 0 w hD hJ hL hW (by omega) (by omega) (by omega)
  have c3 : w.cell? ⟨J.b, 3, none⟩ = some (.int .u64 (J.seq : Int)) := hJ.blk.cell 3
  obtain ⟨q, hq⟩ : ∃ q : Int, q = (J.seq : Int) := ⟨_, rfl⟩
  rw [← hq] at c3
  have hs0 : ¬ (q = 4611686018427387904) := by omega
  have hs1 : q < 4611686018427387904 := by omega
  have hs2 : 0 ≤ q := by omega
  have HQ := Lib.hid hq
  have HH := Lib.hid (And.intro hD (And.intro hJ (And.intro hL (And.intro hi (And.intro hon hs)))))
  have HHD := Lib.hid hhd
  clear hD hJ hL hW hs hi hon hhd hm2 hq
  go_enter Try.func72, Try.ntmps72
  go_wp2_with fail
  refine hbr.mono ?_
  clear hbr
  rintro e w1 ⟨rfl, rfl⟩
  go_wp2_with fail
  have e1 : q + 1 = ((J.seq + 1 : Nat) : Int) := by have := HQ.out; omega
  have HHD2 := HHD.out
  rw [← e1] at HHD2
  refine HHD2.mono ?_
  rintro e w2 ⟨rfl, D2, h1, h2, h3, h4, h5, h6, h7, h8, h9⟩
  have f4 := h2.blk.frozen 4
  have f5 := h2.blk.frozen 5
  have c4 : w2.cell? ⟨J.b, 4, none⟩ = some (.slice J.A J.data.length J.c) := h2.blk.cell 4
  have c5 : w2.cell? ⟨J.b, 5, none⟩ = some (.int .i64 J.count) := h2.blk.cell 5
  have H2 := Lib.hid (And.intro h1 (And.intro h2 (And.intro h3 (And.intro h4 (And.intro h5 (And.intro h6 (And.intro h7 (And.intro h8 h9))))))))
  clear h1 h2 h3 h4 h5 h6 h7 h8 h9 HHD2 HHD c3 e1
  go_wp2_with fail
  go_ret
  obtain ⟨h1, h2, h3, h4, h5, h6, h7, h8, h9⟩ := H2.out
  have hT : Turned (fun k => k = J.b) w2 ((w2.setCell ⟨J.b, 4, none⟩ (.slice none 0 0)).setCell ⟨J.b, 5, none⟩ (.int .i64 0)) :=
    (Turned.setCell (S := fun k => k = J.b) (Turned.refl _ w2) (p := ⟨J.b, 4, none⟩) (fun _ => rfl) _).setCell (p := ⟨J.b, 5, none⟩) (fun _ => rfl) _
  have hneb : J.b ≠ D.d ∧ J.b ≠ D.bb := by
    refine ⟨?_, ?_⟩
    · exact HH.out.2.1.blk.ne_ HH.out.1.bd (by decide)
    · exact HH.out.2.1.blk.ne_ HH.out.1.bb (by decide)
  refine ⟨rfl, D2, { J with seq := J.seq + 1, data := [], A := none, c := 0, count := 0 }, ?_, rfl, rfl⟩
  refine ⟨h1.turned0 h8.1 hT (fun e => hneb.1 (by rw [h4] at e; exact e.symm)) (fun e => hneb.2 (by rw [h5] at e; exact e.symm)), ?_, h3.trans hT (fun _ _ e => .inr (.inr e)), h4, h5, rfl, rfl, rfl, h6, h7, h8, ?_, ?_⟩
  · refine ⟨?_, Bs.nil _ _, Nat.zero_le _, h2.room, h2.frm, by show J.seq + 1 ≤ _; have := HH.out.2.2.2.2.2; omega⟩
    have := (h2.blk.set_ 4 (.slice none 0 0)).set_ 5 (.int .i64 0)
    simpa [LogG.head] using this
  · rw [h9]
    have hlen : J.frm + 1 < D.now.length := by rw [D.now_len]; exact HH.out.2.2.2.1
    exact LogDisk.next (data := []) (n := 0) HH.out.2.2.2.2.1 (HH.out.2.1.room) (HH.out.2.1.seq) HH.out.2.1.fits hlen (fun _ _ => rfl) rfl (fun k hk => absurd hk (Nat.not_lt_zero _)) _ (zeros_len 464)
  · intro i hi
    rw [h9, List.getElem?_set_ne (by omega)]
end Go.Proofs.Ytliakkpmmmgmhaa
/- Add: a record stands behind the others. -/
namespace Go.Proofs.Ytliakkpmmmgmhaa
open Go.RowKit

/-- A block of bytes, filled up with noughts. -/
def blkOf (all : List UInt8) (i : Nat) : List UInt8 := (all.drop (i * 512)).take 512 ++ zeros (512 - ((all.drop (i * 512)).take 512).length)
theorem blkOf_len (all : List UInt8) (i : Nat) : (blkOf all i).length = 512 := by
  unfold blkOf
  rw [List.length_append, zeros_len]
  have : ((all.drop (i * 512)).take 512).length ≤ 512 := by rw [List.length_take]; omega
  omega
/-- Blocks laid one behind the other. -/
def layK (base : Nat) (all : List UInt8) (k0 : Nat) (N : List (List UInt8)) (m : Nat) : List (List UInt8) := (List.range m).foldl (fun N q => N.set (base + (k0 + q)) (blkOf all (k0 + q))) N
theorem layK_succ (base : Nat) (all : List UInt8) (k0 : Nat) (N : List (List UInt8)) (m : Nat) : layK base all k0 N (m + 1) = (layK base all k0 N m).set (base + (k0 + m)) (blkOf all (k0 + m)) := by
  unfold layK; rw [List.range_succ, List.foldl_append]; rfl
theorem layK_len (base : Nat) (all : List UInt8) (k0 : Nat) (N : List (List UInt8)) (m : Nat) : (layK base all k0 N m).length = N.length := by
  induction m with
  | zero => rfl
  | succ m ih => rw [layK_succ, List.length_set, ih]
theorem layK_out {base : Nat} {all : List UInt8} {k0 : Nat} {N : List (List UInt8)} {m i : Nat} (h : i < base + k0 ∨ base + k0 + m ≤ i) : (layK base all k0 N m)[i]? = N[i]? := by
  induction m with
  | zero => rfl
  | succ m ih => rw [layK_succ, List.getElem?_set_ne (by omega)]; exact ih (by omega)
theorem layK_in {base : Nat} {all : List UInt8} {k0 : Nat} {N : List (List UInt8)} {m q : Nat} (hq : q < m) (hl : base + (k0 + m) ≤ N.length) : (layK base all k0 N m)[base + (k0 + q)]? = some (blkOf all (k0 + q)) := by
  induction m with
  | zero => omega
  | succ m ih =>
    rw [layK_succ]
    by_cases e : q = m
    · subst e; rw [List.getElem?_set_self (by rw [layK_len]; omega)]
    · rw [List.getElem?_set_ne (by omega)]; exact ih (by omega) (by omega)
set_option maxRecDepth 100000 in
theorem cut_block {all data s : List UInt8} (h : all = data ++ s) {k : Nat} (hk : (k + 1) * 512 ≤ data.length) : (all.drop (k * 512)).take 512 = (data.drop (k * 512)).take 512 := by
  rw [h, List.drop_append_of_le_length (by omega), List.take_append_of_le_length (by rw [List.length_drop]; omega)]
set_option maxRecDepth 100000 in
/-- What lies on the blocks behind the records. -/
theorem LogDisk.laid {N : List (List UInt8)} {J : LogG} {f : List UInt8} (h : LogDisk N J) {m : Nat} (hm : (J.data ++ f).length ≤ (J.data.length / 512 + m) * 512) (hl : J.frm + 2 + (J.data.length / 512 + m) ≤ N.length) :
    ∀ k, k * 512 < (J.data ++ f).length → ∃ z, (layK (J.frm + 2) (J.data ++ f) (J.data.length / 512) N m)[J.frm + 2 + k]? = some (((J.data ++ f).drop (k * 512)).take 512 ++ z) := by
  intro k hk
  by_cases hk0 : k < J.data.length / 512
  · rw [layK_out (by omega)]
    have h1 : (k + 1) * 512 ≤ J.data.length := by omega
    obtain ⟨z, hz⟩ := h.data k (by omega)
    exact ⟨z, by rw [hz, cut_block rfl h1]⟩
  · obtain ⟨q, rfl⟩ : ∃ q, k = J.data.length / 512 + q := ⟨k - J.data.length / 512, by omega⟩
    rw [layK_in (by omega) (by omega)]
    exact ⟨_, rfl⟩

/-- What the first loop of Add has put together. -/
def AddRel (w : World) (data : List UInt8) (f : List UInt8) (v i : Value) (wr : World) : Prop :=
  ∃ (k : Nat) (all : List UInt8), (k = 0 ∧ all = data ∨ k = 1 ∧ all = data ++ f) ∧ i = .int .i64 (k : Int) ∧ Hid (wr.ownsRow w.heap.size 5 1 v all.length (u8s all)) ∧ Hid (Below w.heap.size w wr)
/-- The second loop of Add under way. -/
def AddRel2 (w : World) (D : DiskG) (J : LogG) (all : List UInt8) (A2 : Option Addr) (al c2 k0 : Nat) (i : Value) (wr : World) : Prop :=
  ∃ (m : Nat) (D' : DiskG), (m = 0 ∨ (k0 + m - 1) * 512 < al) ∧ i = .int .i64 ((k0 + m : Nat) : Int) ∧ Hid (DStep w wr D D' ∧ D'.now = layK (J.frm + 2) all k0 D.now m ∧ D'.W.length = m) ∧ Hid (Bs 5 wr A2 al c2 all)
theorem frame_le (s : List UInt8) (hs : s.length ≤ 1000000) : (frameB s).length ≤ s.length + 14 := by
  rw [frameB_len]
  have := numB_ten (n := s.length) (by omega)
  omega
set_option maxRecDepth 100000 in
set_option maxHeartbeats 8000000 in
theorem add_c (D : DiskG) (J : LogG) (rb ns cs : Nat) (As : Option Addr) (s : List UInt8) (w : World) (hD : DiskRep w D) (hJ : LogRep w D.d J) (hL : D.Live) (hW : D.W = []) (hs : J.seq < 4611686018427387904) (hon : LogDisk D.now J)
    (hrb : Blk w rb 31 #[.slice As ns cs]) (hB : Bs 5 w As ns cs s) (hns : ns ≤ 900000) (hroom : J.data.length + (s.length + 14) ≤ J.room) (hr5 : J.room % 512 = 0) (hrl : J.room ≤ 1000000) (hpl : J.frm + 2 + J.room / 512 ≤ D.L.length) :
    Calls Try.prog 50 #[.pointer (some ⟨J.b, 0, none⟩), .slice (some ⟨rb, 0, none⟩) 1 1] w fun e w' => e = .returned (.int .i64 0) ∧ ∃ D' J', LStep w w' D D' J J' ∧ J'.seq = J.seq + 1 ∧ J'.data = J.data ++ frameB s := by
  have hbr := lbroken_c D.d J w hJ
  have c4 : w.cell? ⟨J.b, 4, none⟩ = some (.slice J.A J.data.length J.c) := hJ.blk.cell 4
  have hsl := hB.len
  have hfl := frame_le s (by omega)
  have HH := Lib.hid (And.intro hD (And.intro hJ (And.intro hL (And.intro hW (And.intro hs (And.intro hon (And.intro hrb (And.intro hB (And.intro hroom (And.intro hr5 hpl))))))))))
  have HN := Lib.hid (And.intro hns (And.intro hsl hfl))
  have hroom' : (J.data.length : Int) + (ns : Int) + 14 ≤ (J.room : Int) := by omega
  have hrl' : (J.room : Int) ≤ 1000000 := by omega
  clear hD hJ hL hW hs hon hrb hB hns hroom hr5 hrl hpl hsl hfl
  go_enter Try.func50, Try.ntmps50
  go_wp2_with fail
  refine hbr.mono ?_
  clear hbr
  rintro e w1 ⟨rfl, rfl⟩
  go_wp2_with fail
  refine (clone_own J.A J.data.length J.c J.data w HH.out.2.1.bs (by have := HH.out.2.1.fits; have := HH.out.2.1.room; omega)).mono ?_
  rintro e w1 ⟨A1, c1, rfl, ho1, hb1⟩
  have H1 := Lib.hid (And.intro ho1 hb1)
  clear ho1 hb1 c4
  go_wp2_with fail
  go_loopw [5, 25] (fun v i wr => AddRel w J.data (frameB s) v i wr) (fun _ i _ => 1 - (intOf i).toNat)
  case atStart => exact ⟨0, J.data, .inl ⟨rfl, rfl⟩, rfl, H1.out.1, H1.out.2⟩
  case round =>
    clear H1
    obtain ⟨k, all, hk, rfl, HO, HW⟩ := hrel
    have hJr := HH.out.2.1.below HW.out
    rcases hk with ⟨rfl, hall⟩ | ⟨rfl, hall⟩
    · subst hall
      obtain ⟨A2, c2, rfl, hfr⟩ := own_form HO.out
      have c0 : wr.cell? ⟨rb, 0, none⟩ = some (.slice As ns cs) := (HH.out.2.2.2.2.2.2.1.below HW.out HH.out.2.2.2.2.2.2.1.lt).cell 0
      have c2r : wr.cell? ⟨J.b, 2, none⟩ = some (.int .i64 (J.room : Int)) := hJr.blk.cell 2
      have hB := HH.out.2.2.2.2.2.2.2.1.below HW.out
      have HR := Lib.hid (And.intro hfr hB)
      have hnot : ¬ ((J.room : Int) - (J.data.length : Int) < (ns : Int)) := by omega
      clear hfr hB hJr
      go_wp2_with fail
      refine (frame_c As ns cs s wr HR.out.2 (by have := HN.out.1; omega)).mono ?_
      rintro e w3 ⟨A3, c3, rfl, ho3, hb3⟩
      have ho2 := ownsRow_below HO.out hb3
      have hB3 : Bs 5 w3 A3 (frameB s).length c3 (frameB s) := Bs.of_own ho3
      obtain ⟨i0, hi, hz, hs', hb'⟩ := info_parts info8
      have H3 := Lib.hid (And.intro ho2 (And.intro hB3 (And.intro (HW.out.trans (hb3.mono HW.out.size)) (And.intro hi (And.intro hz (And.intro hs' hb'))))))
      clear ho3 hb3 ho2 hB3 hi hz hs' hb' c0 c2r
      go_wp2_with (
        (refine at_dst 42 rfl ?_)
        (refine wpList_append_bs rfl (.tmp 39) (.tmp 41) 31 rfl Try.underlying31 H3.out.2.2.2.1 H3.out.2.2.2.2.1 H3.out.2.2.2.2.2.1 H3.out.2.2.2.2.2.2 w.heap.size _ rfl H3.out.1 rfl H3.out.2.1 (by have := HN.out; omega) H3.out.2.2.1.size ?_)
        intro v4 w4 hown4 hgr4 _
        have H4 := Lib.hid (And.intro hown4 (H3.out.2.2.1.grown hgr4 H3.out.2.2.1.size HR.out.1))
        clear hown4 hgr4)
      go_roundw
      case rel => exact ⟨1, J.data ++ frameB s, .inr ⟨rfl, rfl⟩, rfl, by show World.ownsRow _ _ _ _ _ _ _; rw [List.length_append, u8s_append]; exact H4.out.1, H4.out.2⟩
      case measure => simp [intOf]
    · subst hall
      obtain ⟨A2, c2, rfl, hfr⟩ := own_form HO.out
      have hBa : Bs 5 wr A2 (J.data ++ frameB s).length c2 (J.data ++ frameB s) := Bs.of_own HO.out
      obtain ⟨al, hal⟩ : ∃ al, al = (J.data ++ frameB s).length := ⟨_, rfl⟩
      rw [← hal] at hBa HO ⊢
      have hal1 : al ≤ J.room := by rw [hal, List.length_append]; have := HN.out; have := HH.out.2.2.2.2.2.2.2.2.1; omega
      have hal0 : J.data.length < al := by rw [hal, List.length_append, frameB_len]; omega
      have c2r : wr.cell? ⟨J.b, 2, none⟩ = some (.int .i64 (J.room : Int)) := hJr.blk.cell 2
      obtain ⟨q, hq⟩ : ∃ q : Int, q = (J.seq : Int) := ⟨_, rfl⟩
      have c3r : wr.cell? ⟨J.b, 3, none⟩ = some (.int .u64 q) := by rw [hq]; exact hJr.blk.cell 3
      have c4r : wr.cell? ⟨J.b, 4, none⟩ = some (.slice J.A J.data.length J.c) := hJr.blk.cell 4
      have hq0 : ¬ (q = 4611686018427387904) := by have := HH.out.2.2.2.2.1; omega
      have hq1 : q < 4611686018427387904 := by have := HH.out.2.2.2.2.1; omega
      have hq2 : 0 ≤ q := by omega
      obtain ⟨k0, hk0⟩ : ∃ k0, k0 = J.data.length / 512 := ⟨_, rfl⟩
      have hd1 : (J.data.length : Int) / 512 = (k0 : Int) := by omega
      have hd2 : (J.data.length : Int).tdiv 512 = (k0 : Int) := by rw [Int.tdiv_eq_ediv_of_nonneg (by omega)]; exact hd1
      have hal2 : ¬ ((J.room : Int) < (al : Int)) := by omega
      have hal3 : (al : Int) ≤ 1000000 := by omega
      have HX := Lib.hid (And.intro hBa (And.intro hal (And.intro hal1 (And.intro hal0 (And.intro hq (And.intro hk0 hJr))))))
      clear hBa hal hal1 hal0 hq hk0 hfr hJr
      go_wp2_with fail
      have hD0 : DStep w wr D D := ⟨HH.out.1.below HW.out, (Turned.of_below (S := fun k => k = D.d ∨ k = D.bb) HW.out), rfl, rfl, rfl, HH.out.2.2.1⟩
      have HD0 := Lib.hid hD0
      clear hD0 hd1 hd2 c2r c3r c4r hq0
      go_loopw [8] (fun i wr2 => AddRel2 w D J (J.data ++ frameB s) A2 al c2 k0 i wr2) (fun i _ => al - (intOf i).toNat * 512)
      case atStart => exact ⟨0, D, .inl rfl, rfl, ⟨HD0.out, rfl, by rw [HH.out.2.2.2.1]; rfl⟩, HX.out.1⟩
      case round =>
        clear HD0
        obtain ⟨m, D2, hm, rfl, HD, HB2⟩ := hrel
        obtain ⟨I, hI⟩ : ∃ I, I = k0 + m := ⟨_, rfl⟩
        rw [← hI]
        by_cases hlt : I * 512 < al
        · obtain ⟨I5, hI5⟩ : ∃ I5 : Nat, I5 = I * 512 := ⟨_, rfl⟩
          have e5 : (I : Int) * 512 = (I5 : Int) := by omega
          have hI5l : (I5 : Int) < (al : Int) := by omega
          obtain ⟨g, o, rfl, _⟩ := HB2.out.lt (by omega)
          have hc5 : ¬ c2 = I5 := by have := HB2.out.cap; omega
          have hcap : (al : Int) ≤ (c2 : Int) := by have := HB2.out.cap; omega
          have hmost : (c2 : Int) ≤ 9223372036854775807 := by have := HB2.out.most; simp only [maxLen] at this; omega
          have hcut : Bs 5 wr (some ⟨g, o + I5, none⟩) (al - I5) (c2 - I5) ((J.data ++ frameB s).drop I5) := by
            have := HB2.out.cut (lo := I5) (hi := al) (by omega) (Nat.le_refl _)
            rw [if_neg hc5, List.take_of_length_le (by rw [List.length_drop, HB2.out.len]; exact Nat.le_refl _)] at this
            simpa [Addr.add_mid] using this
          have HY := Lib.hid (And.intro hI (And.intro hI5 (And.intro hlt (And.intro hcut hm))))
          clear hI hI5 hlt hcut hm
          go_wp2_with (first
            | ((refine at_dst 71 rfl ?_)
               (refine wpList_make_bs rfl (.const (.int .i64 512)) (.const (.int .i64 512)) rfl .i64 .i64 512 512 512 rfl rfl rfl rfl (by omega) ?_)
               intro w5 hb5 hbel5 hs5
               have H5 := Lib.hid (And.intro hb5 hbel5)
               clear hb5 hbel5 hs5)
            | ((refine at_dst 77 rfl ?_)
               (refine wpList_copy_bs (t := 5) (tb := 5) rfl (.tmp 72) (.tmp 76) rfl wr.heap.size 0 512 512 rfl (some ⟨g, o + I5, none⟩) (al - I5) (c2 - I5) rfl _ H5.out.1 ((J.data ++ frameB s).drop I5) (HY.out.2.2.2.1.below H5.out.2) (by rw [List.size_toArray, u8s_length, zeros_len]; omega) ?_)
               intro w6 hb6 ht6 hs6
               rw [putCs_zeros] at hb6
               have hbel6 : Below wr.heap.size wr w6 := Turned.below ((Turned.of_below (S := fun _ => False) H5.out.2).trans ht6 (fun k hk e => absurd e (by have := hk; omega)))
               have H6 := Lib.hid (And.intro hb6 hbel6)
               clear hb6 ht6 hs6 hbel6 H5))
          have hJ6 := (LogRep.dstep HH.out.2.1 HH.out.1 HD.out.1).below H6.out.2
          have c0 : w6.drew.cell? ⟨J.b, 0, none⟩ = some (.pointer (some ⟨D.d, 0, none⟩)) := hJ6.blk.drew.cell 0
          have c1 : w6.drew.cell? ⟨J.b, 1, none⟩ = some (.int .i64 (J.frm : Int)) := hJ6.blk.drew.cell 1
          have hf1 : (J.frm : Int) ≤ 4096 := by have := HH.out.2.1.frm; omega
          have hI6 : (I : Int) ≤ 1000000 := by omega
          have HJ6 := Lib.hid hJ6
          clear hJ6
          go_still_tail 12, (by kernel_rfl)
          change wpList _ _ _ _ _ w6.drew
          go_wp2_with fail
          have hidx : (J.frm : Int) + 2 + (I : Int) = ((J.frm + 2 + I : Nat) : Int) := by omega
          rw [hidx]
          obtain ⟨bl, hbl⟩ : ∃ bl, bl = blkOf (J.data ++ frameB s) I := ⟨_, rfl⟩
          have hI5' := HY.out.2.1
          have hWB : Bs 5 w6.drew (some ⟨wr.heap.size, 0, none⟩) 512 512 bl := by
            refine blk_bs (l := bl) ?_ (by rw [hbl, blkOf_len]; decide) (by rw [hbl, blkOf_len])
            have := H6.out.1.drew
            rw [hbl]; unfold blkOf; rw [← hI5']; exact this
          have hD6' : DStep w w6 D D2 := HD.out.1.more H6.out.2
          have hD6 : DiskRep w6.drew D2 := hD6'.rep.turned (S := fun _ => False) (Turned.refl _ w6).drew id id (fun _ _ _ h => h)
          have hIb : J.frm + 2 + I < D2.L.length := by
            rw [HD.out.1.len]
            have h1 := HH.out.2.2.2.2.2.2.2.2.2.2
            have h2 := HX.out.2.2.1
            have h3 := HY.out.2.2.1
            have h4 := HH.out.2.2.2.2.2.2.2.2.2.1
            omega
          have hwl : D2.W.length ≤ 1000000 := by rw [HD.out.2.2]; have := HY.out; omega
          have hw := write_s D2 (J.frm + 2 + I) _ 512 512 bl _ hD6 hWB HD.out.1.live hIb rfl hwl
          rw [HD.out.1.d] at hw
          refine hw.mono ?_
          clear hw
          rintro e w7 ⟨rfl, D3, hd7, hn7, hw7⟩
          have hb6d : Below wr.heap.size wr w6.drew := H6.out.2.drew
          have hd7' : DStep w w7 D D3 := HD.out.1.trans (DStep.after hb6d hd7)
          have hB7 : Bs 5 w7 (some ⟨g, o, none⟩) al c2 (J.data ++ frameB s) := (HB2.out.below hb6d).turned hd7.turned (by
            rintro k (rfl | rfl)
            · exact hD6.bd.not8 (by decide)
            · exact hD6.bb.not8 (by decide))
          have hnn : D3.now = layK (J.frm + 2) (J.data ++ frameB s) k0 D.now (m + 1) := by rw [hn7, HD.out.2.1, layK_succ, hbl, HY.out.1, Nat.add_assoc (J.frm + 2) k0 m |>.symm, Nat.add_assoc]
          have H7 := Lib.hid (And.intro hd7' (And.intro hnn (And.intro (show D3.W.length = m + 1 by rw [hw7, HD.out.2.2]) hB7)))
          clear hidx hbl hI5' hWB hD6' hD6 hIb hwl hd7 hn7 hw7 hb6d hd7' hB7 hnn c0 c1 H6
          go_wp2_with fail
          go_roundw
          case rel => exact ⟨m + 1, D3, .inr (by have := HY.out; omega), by rw [HY.out.1]; go_num, ⟨H7.out.1, H7.out.2.1, H7.out.2.2.1⟩, H7.out.2.2.2⟩
          case measure => simp [intOf]; have := HY.out; omega
        · have hI0 : ¬ ((I : Int) * 512 < (al : Int)) := by omega
          have hJ2 := LogRep.dstep HH.out.2.1 HH.out.1 HD.out.1
          have c0 : wr.cell? ⟨J.b, 0, none⟩ = some (.pointer (some ⟨D.d, 0, none⟩)) := hJ2.blk.cell 0
          have hf1 : (I : Int) ≤ 2000000 := by
            rcases hm with h | h
            · have := HX.out.2.2.2.2.2.1; omega
            · omega
          have HJ2 := Lib.hid (And.intro hJ2 (And.intro hlt (And.intro hI hm)))
          clear hJ2 hlt hI hm
          go_wp2_with fail
          have hfl := flush_s D2 wr HD.out.1.rep HD.out.1.live (by rw [HD.out.2.2]; have := HJ2.out; omega)
          rw [HD.out.1.d] at hfl
          refine hfl.mono ?_
          clear hfl
          rintro e w7 ⟨rfl, D3, hd7, hn7, hs7⟩
          have hd7' : DStep w w7 D D3 := HD.out.1.trans hd7
          have hJ7 := LogRep.dstep HH.out.2.1 HH.out.1 hd7'
          obtain ⟨q2, hq2'⟩ : ∃ q2 : Int, q2 = q := ⟨_, rfl⟩
          have c3 : w7.cell? ⟨J.b, 3, none⟩ = some (.int .u64 q) := by rw [HX.out.2.2.2.2.1]; exact hJ7.blk.cell 3
          have hB7 : Bs 5 w7 A2 al c2 (J.data ++ frameB s) := HB2.out.turned hd7.turned (by
            rintro k (rfl | rfl)
            · exact HD.out.1.rep.bd.not8 (by decide)
            · exact HD.out.1.rep.bb.not8 (by decide))
          have H7 := Lib.hid (And.intro hd7' (And.intro hJ7 (And.intro hn7 (And.intro hs7 hB7))))
          clear hd7 hd7' hJ7 hn7 hs7 hB7 c0 hq2'
          go_wp2_with fail
          have e1 : q + 1 = ((J.seq + 1 : Nat) : Int) := by have := HX.out.2.2.2.2.1; omega
          rw [e1]
          have hm2 : (J.seq + 1) % 2 < 2 := Nat.mod_lt _ (by decide)
          have hpl := HH.out.2.2.2.2.2.2.2.2.2.2
          have hhd := head_c D3 J (J.seq + 1) al w7 H7.out.1.rep (by rw [H7.out.1.d]; exact H7.out.2.1) H7.out.1.live (by rw [H7.out.2.2.2.1.1]; simp) (by have := HH.out.2.2.2.2.1; omega) (by omega) (by rw [H7.out.1.len]; omega)
          refine hhd.mono ?_
          clear hhd hm2 hpl
          rintro e w8 ⟨rfl, D4, h1, h2, h3, h4, h5, h6, h7, h8, h9⟩
          have hB8 := H7.out.2.2.2.2.turned h3 (by
            rintro k (rfl | rfl | rfl)
            · exact H7.out.1.rep.bd.not8 (by decide)
            · exact H7.out.1.rep.bb.not8 (by decide)
            · exact H7.out.2.1.blk.not8 (by decide))
          have f4 := h2.blk.frozen 4
          have f5 := h2.blk.frozen 5
          have c4 : w8.cell? ⟨J.b, 4, none⟩ = some (.slice J.A J.data.length J.c) := h2.blk.cell 4
          have c5 : w8.cell? ⟨J.b, 5, none⟩ = some (.int .i64 J.count) := h2.blk.cell 5
          have H8 := Lib.hid (And.intro h1 (And.intro h2 (And.intro h3 (And.intro h4 (And.intro h5 (And.intro h6 (And.intro h7 (And.intro h8 (And.intro h9 hB8)))))))))
          clear h1 h2 h3 h4 h5 h6 h7 h8 h9 hB8 e1 c3
          go_wp2_with fail
          go_ret
          obtain ⟨h1, h2, h3, h4, h5, h6, h7, h8, h9, hB8⟩ := H8.out
          obtain ⟨xd, xj, xn, xs, xb⟩ := H7.out
          rw [xd.d] at h2 h3 h4
          rw [xd.bb] at h3 h5
          obtain ⟨y1, y2, y3, y4, y5, y6, y7⟩ := HX.out
          obtain ⟨z1, z2, z3, z4⟩ := HJ2.out
          obtain ⟨t1, t2, t3, t4, t5, t6, t7, t8, t9, t10, t11⟩ := HH.out
          have hT : Turned (fun k => k = J.b) w8 ((w8.setCell ⟨J.b, 4, none⟩ (.slice A2 al c2)).setCell ⟨J.b, 5, none⟩ (.int .i64 (wrap64 (J.count + 1)))) :=
            (Turned.setCell (S := fun k => k = J.b) (Turned.refl _ w8) (p := ⟨J.b, 4, none⟩) (fun _ => rfl) _).setCell (p := ⟨J.b, 5, none⟩) (fun _ => rfl) _
          have hneb : J.b ≠ D.d ∧ J.b ≠ D.bb := ⟨t2.blk.ne_ t1.bd (by decide), t2.blk.ne_ t1.bb (by decide)⟩
          have hlen : D3.now.length = D.L.length := by rw [D3.now_len, xd.len]
          have hnow : D3.now = layK (J.frm + 2) (J.data ++ frameB s) (J.data.length / 512) D.now m := by rw [xn, HD.out.2.1, y6]
          have hkm : J.frm + 2 + (J.data.length / 512 + m) ≤ D.now.length := by
            rw [D.now_len]
            rcases z4 with h | h <;> omega
          refine ⟨rfl, D4, { J with seq := J.seq + 1, data := J.data ++ frameB s, A := A2, c := c2, count := wrap64 (J.count + 1) }, ?_, rfl, rfl⟩
          refine ⟨h1.turned0 h8.1 hT (fun e => hneb.1 (by rw [h4] at e; exact e.symm)) (fun e => hneb.2 (by rw [h5] at e; exact e.symm)), ?_, ((xd.turned.more (fun _ _ e => e.elim .inl (fun e => .inr (.inl e)))).trans h3 (fun _ _ e => e)).trans hT (fun _ _ e => .inr (.inr e)), h4, h5, rfl, rfl, rfl, h6.trans xd.len, h7, h8, ?_, ?_⟩
          · refine ⟨?_, ?_, by show (J.data ++ frameB s).length ≤ J.room; omega, h2.room, h2.frm, by show J.seq + 1 ≤ _; omega⟩
            · have := (h2.blk.set_ 4 (.slice A2 al c2)).set_ 5 (.int .i64 (wrap64 (J.count + 1)))
              have e : ({ J with seq := J.seq + 1, data := J.data ++ frameB s, A := A2, c := c2, count := wrap64 (J.count + 1) } : LogG).head D.d = ((({ J with seq := J.seq + 1 } : LogG).head D.d).setIfInBounds 4 (.slice A2 al c2)).setIfInBounds 5 (.int .i64 (wrap64 (J.count + 1))) := by
                rw [y2]; simp [LogG.head]
              rw [e]; exact this
            · show Bs _ _ A2 (J.data ++ frameB s).length c2 (J.data ++ frameB s)
              rw [← y2]
              exact hB8.turned hT (fun k e => by subst e; exact h2.blk.not8 (by decide))
          · rw [h9]
            refine LogDisk.next (data := J.data ++ frameB s) t6 t2.room t2.seq t2.fits (by rw [hlen]; omega) (fun i hi => ?_) y2 ?_ _ (zeros_len 464)
            · rw [hnow, layK_out (by omega)]
            · rw [hnow]
              exact t6.laid (by rw [← y2]; omega) hkm
          · intro i hi
            rw [h9, List.getElem?_set_ne (by omega), hnow, layK_out]
            rw [D.now_len] at hkm
            rcases hi with hi | hi
            · exact .inl (by omega)
            · refine .inr ?_
              rcases z4 with h | h <;> omega
end Go.Proofs.Ytliakkpmmmgmhaa
/- What a head says. -/
namespace Go.Proofs.Ytliakkpmmmgmhaa
open Go.RowKit

/-- What right tells. -/
def RightDone (w : World) (o : Nat × Nat) (e : Ending) (w' : World) : Prop := e = .returned (.tuple #[.int .u64 (o.1 : Int), .int .i64 (o.2 : Int)]) ∧ Below w.heap.size w w'

set_option linter.unusedSimpArgs false in
set_option maxRecDepth 100000 in
set_option maxHeartbeats 8000000 in
theorem right_good {tb : TypeId} (A : Option Addr) (c : Nat) (b : List UInt8) (room : Nat) (w : World) (h : Bs tb w A 512 c b) (hr : room ≤ 1000000000) (s n : Nat) (hsn : rightM b room = (s, n)) (h1 : 1 ≤ s) :
    Calls Try.prog 78 #[.slice A 512 c, .int .i64 room] w (RightDone w (rightM b room)) := by
  have hl := h.len
  obtain ⟨g, o, rfl, _⟩ := h.lt (by omega)
  have hc := h.cap
  have hm := h.most
  have hc8 : ¬ c = 8 := by omega
  have hc16 : ¬ c = 16 := by omega
  have hc24 : ¬ c = 24 := by omega
  have b1 : Bs tb w (some ⟨g, o + 8, none⟩) 8 (c - 8) ((b.drop 8).take 8) := by
    have := h.cut (lo := 8) (hi := 16) (by omega) (by omega)
    rw [if_neg hc8] at this
    simpa [Addr.add_mid] using this
  have b2 : Bs tb w (some ⟨g, o + 16, none⟩) 8 (c - 16) ((b.drop 16).take 8) := by
    have := h.cut (lo := 16) (hi := 24) (by omega) (by omega)
    rw [if_neg hc16] at this
    simpa [Addr.add_mid] using this
  have b3 : Bs tb w (some ⟨g, o, none⟩) 24 c (b.take 24) := h.take (by omega)
  have b4 : Bs tb w (some ⟨g, o + 24, none⟩) 24 (c - 24) ((b.drop 24).take 24) := by
    have := h.cut (lo := 24) (hi := 48) (by omega) (by omega)
    rw [if_neg hc24] at this
    simpa [Addr.add_mid] using this
  obtain ⟨S, hS⟩ : ∃ S, S = lowN ((b.drop 8).take 8) := ⟨_, rfl⟩
  obtain ⟨N, hN⟩ : ∃ N, N = lowN ((b.drop 16).take 8) := ⟨_, rfl⟩
  have hcI : (c : Int) ≤ 9223372036854775807 := by simp only [maxLen] at hm; omega
  have hc48 : (48 : Int) ≤ c := by omega
  have hc24' : (24 : Int) ≤ c := by omega
  have hc16' : (16 : Int) ≤ c := by omega
  have HH := Lib.hid (And.intro b1 (And.intro b2 (And.intro b3 (And.intro b4 (And.intro hS (And.intro hN hr))))))
  clear b1 b2 b3 b4 hS hN hm hc h hr
  go_enter Try.func78, Try.ntmps78
  go_wp2_with fail
  go_quiet (
    (go_at_call 95
     refine Calls.quiet_of_same ((low_c (tb := tb) _ _ _ _ (by first | exact HH.out.1.drewN _ | exact HH.out.2.1.drewN _)).mono (fun _ _ h => ⟨h.1, h.2.symm⟩))))
  go_wp2_with fail
  rw [← HH.out.2.2.2.2.1, ← HH.out.2.2.2.2.2.1]
  obtain ⟨wq, hwq⟩ : ∃ wq, wq = w.drewN nq := ⟨_, rfl⟩
  rw [← hwq]
  have q3 : Bs tb wq (some ⟨g, o, none⟩) 24 c (b.take 24) := by rw [hwq]; exact HH.out.2.2.1.drewN _
  have q4 : Bs tb wq (some ⟨g, o + 24, none⟩) 24 (c - 24) ((b.drop 24).take 24) := by rw [hwq]; exact HH.out.2.2.2.1.drewN _
  have hbw : Below w.heap.size w wq := by rw [hwq]; exact Turned.below ((Turned.refl _ w).drewN nq)
  have hS64 : S < 18446744073709551616 := by
    rw [HH.out.2.2.2.2.1]
    exact Nat.lt_of_lt_of_le (lowN_lt _) (Nat.le_trans (Nat.pow_le_pow_right (by decide) (show _ ≤ 8 by simp; omega)) (by decide))
  have hN64 : N < 18446744073709551616 := by
    rw [HH.out.2.2.2.2.2.1]
    exact Nat.lt_of_lt_of_le (lowN_lt _) (Nat.le_trans (Nat.pow_le_pow_right (by decide) (show _ ≤ 8 by simp; omega)) (by decide))
  have hrm : rightM b room = if b.take 24 = halfB S N ∧ (b.drop 24).take 24 = halfB N S ∧ 1 ≤ S ∧ S ≤ 4611686018427387904 ∧ N ≤ room then (S, N) else (0, 0) := by
    rw [HH.out.2.2.2.2.1, HH.out.2.2.2.2.2.1]; rfl
  have HQ := Lib.hid (And.intro hbw (And.intro hS64 (And.intro hN64 hrm)))
  have hroom := HH.out.2.2.2.2.2.2
  clear hwq hbw hS64 hN64 hrm hl
  have cv3 : ∀ W, Bs tb W (some ⟨g, o, none⟩) 24 c (b.take 24) → (convert 31 9 (.slice (some ⟨g, o, none⟩) 24 c)).run Try.prog W = .ok (.string ⟨(b.take 24).toArray⟩) W := fun W h => h.toString Try.underlying31 Try.underlying5 Try.underlying9
  have cv4 : ∀ W, Bs tb W (some ⟨g, o + 24, none⟩) 24 (c - 24) ((b.drop 24).take 24) → (convert 31 9 (.slice (some ⟨g, o + 24, none⟩) 24 (c - 24))).run Try.prog W = .ok (.string ⟨((b.drop 24).take 24).toArray⟩) W := fun W h => h.toString Try.underlying31 Try.underlying5 Try.underlying9
  have kw : IntKind.u64.wrap (room : Int) = (room : Int) := by
    simp only [IntKind.wrap, IntKind.signed, IntKind.bits]
    simp
    omega
  have k6 : (room : Int) ≤ 1000000000 := by omega
  have hok : b.take 24 = halfB S N ∧ (b.drop 24).take 24 = halfB N S ∧ 1 ≤ S ∧ S ≤ 4611686018427387904 ∧ N ≤ room := by
    have h2 := HQ.out.2.2.2
    by_cases h3 : b.take 24 = halfB S N ∧ (b.drop 24).take 24 = halfB N S ∧ 1 ≤ S ∧ S ≤ 4611686018427387904 ∧ N ≤ room
    · exact h3
    · rw [if_neg h3, hsn] at h2
      injection h2 with h2 _
      omega
  obtain ⟨h1', h2, h3, h4, h5⟩ := hok
  rw [h1'] at q3 cv3
  rw [h2] at q4 cv4
  have HC := Lib.hid (And.intro h1' h2)
  clear h1' h2 hsn h1
  have k3 : decide ((S : Int) < 1) = false := decide_eq_false (by omega)
  have k4 : decide ((4611686018427387904 : Int) < (S : Int)) = false := decide_eq_false (by omega)
  have k5 : decide (room < N) = false := decide_eq_false (by omega)
  have k7 : ¬ room < N := by omega
  have H4 := Lib.hid (And.intro h3 (And.intro h4 h5))
  clear h3 h4 h5 hroom
  go_region_held (fun W => Bs tb W (some ⟨g, o, none⟩) 24 c (halfB S N) ∧ Bs tb W (some ⟨g, o + 24, none⟩) 24 (c - 24) (halfB N S) ∧ Below w.heap.size w W) (first | assumption | exact ⟨q3.drew, q4.drew, HQ.out.1.drew⟩ | exact ⟨by assumption, by assumption, by assumption⟩)
    (first
      | (go_at_call 94
         (refine (half_c _ _ (by first | exact HQ.out.2.1 | exact HQ.out.2.2.1) (by first | exact HQ.out.2.1 | exact HQ.out.2.2.1) _).mono ?_)
         rintro e w1 ⟨A1, c1, rfl, ho1, hb1⟩
         have hs1 := (Bs.of_own ho1).toString (P := Try.prog) (src := 31) (dst := 9) Try.underlying31 Try.underlying5 Try.underlying9
         have hk3 : Bs tb w1 (some ⟨g, o, none⟩) 24 c (halfB S N) := Bs.below (by go_split_ands; assumption) hb1
         have hk4 : Bs tb w1 (some ⟨g, o + 24, none⟩) 24 (c - 24) (halfB N S) := Bs.below (by go_split_ands; assumption) hb1
         have hk5 : Below w.heap.size w w1 := Below.trans (by go_split_ands; assumption) (hb1.mono (Below.size (by go_split_ands; assumption)))
         clear ho1 hb1))
  rename_i hHeld
  have HE := Lib.hid (And.intro hk5 HQ.out.2.2.2)
  clear hHeld hk3 hk4 hk5 hs1 q3 q4 cv3 cv4
  go_wp2_with fail
  go_ret2
  exact ⟨by rw [HE.out.2, if_pos ⟨HC.out.1, HC.out.2, H4.out.1, H4.out.2.1, H4.out.2.2⟩]; rfl, HE.out.1⟩
end Go.Proofs.Ytliakkpmmmgmhaa
/- What a head says that is none. -/
namespace Go.Proofs.Ytliakkpmmmgmhaa
open Go.RowKit
set_option linter.unusedSimpArgs false in
set_option maxRecDepth 100000 in
set_option maxHeartbeats 8000000 in
theorem right_bad {tb : TypeId} (A : Option Addr) (c : Nat) (b : List UInt8) (room : Nat) (w : World) (h : Bs tb w A 512 c b) (hr : room ≤ 1000000000) (h1 : b.take 24 ≠ halfB (lowN ((b.drop 8).take 8)) (lowN ((b.drop 16).take 8))) :
    Calls Try.prog 78 #[.slice A 512 c, .int .i64 room] w (RightDone w (rightM b room)) := by
  have hl := h.len
  obtain ⟨g, o, rfl, _⟩ := h.lt (by omega)
  have hc := h.cap
  have hm := h.most
  have hc8 : ¬ c = 8 := by omega
  have hc16 : ¬ c = 16 := by omega
  have hc24 : ¬ c = 24 := by omega
  have b1 : Bs tb w (some ⟨g, o + 8, none⟩) 8 (c - 8) ((b.drop 8).take 8) := by
    have := h.cut (lo := 8) (hi := 16) (by omega) (by omega)
    rw [if_neg hc8] at this
    simpa [Addr.add_mid] using this
  have b2 : Bs tb w (some ⟨g, o + 16, none⟩) 8 (c - 16) ((b.drop 16).take 8) := by
    have := h.cut (lo := 16) (hi := 24) (by omega) (by omega)
    rw [if_neg hc16] at this
    simpa [Addr.add_mid] using this
  have b3 : Bs tb w (some ⟨g, o, none⟩) 24 c (b.take 24) := h.take (by omega)
  have b4 : Bs tb w (some ⟨g, o + 24, none⟩) 24 (c - 24) ((b.drop 24).take 24) := by
    have := h.cut (lo := 24) (hi := 48) (by omega) (by omega)
    rw [if_neg hc24] at this
    simpa [Addr.add_mid] using this
  obtain ⟨S, hS⟩ : ∃ S, S = lowN ((b.drop 8).take 8) := ⟨_, rfl⟩
  obtain ⟨N, hN⟩ : ∃ N, N = lowN ((b.drop 16).take 8) := ⟨_, rfl⟩
  have hcI : (c : Int) ≤ 9223372036854775807 := by simp only [maxLen] at hm; omega
  have hc48 : (48 : Int) ≤ c := by omega
  have hc24' : (24 : Int) ≤ c := by omega
  have hc16' : (16 : Int) ≤ c := by omega
  have HH := Lib.hid (And.intro b1 (And.intro b2 (And.intro b3 (And.intro b4 (And.intro hS (And.intro hN hr))))))
  clear b1 b2 b3 b4 hS hN hm hc h hr
  go_enter Try.func78, Try.ntmps78
  go_wp2_with fail
  go_quiet (
    (go_at_call 95
     refine Calls.quiet_of_same ((low_c (tb := tb) _ _ _ _ (by first | exact HH.out.1.drewN _ | exact HH.out.2.1.drewN _)).mono (fun _ _ h => ⟨h.1, h.2.symm⟩))))
  go_wp2_with fail
  rw [← HH.out.2.2.2.2.1, ← HH.out.2.2.2.2.2.1]
  obtain ⟨wq, hwq⟩ : ∃ wq, wq = w.drewN nq := ⟨_, rfl⟩
  rw [← hwq]
  have q3 : Bs tb wq (some ⟨g, o, none⟩) 24 c (b.take 24) := by rw [hwq]; exact HH.out.2.2.1.drewN _
  have q4 : Bs tb wq (some ⟨g, o + 24, none⟩) 24 (c - 24) ((b.drop 24).take 24) := by rw [hwq]; exact HH.out.2.2.2.1.drewN _
  have hbw : Below w.heap.size w wq := by rw [hwq]; exact Turned.below ((Turned.refl _ w).drewN nq)
  have hS64 : S < 18446744073709551616 := by
    rw [HH.out.2.2.2.2.1]
    exact Nat.lt_of_lt_of_le (lowN_lt _) (Nat.le_trans (Nat.pow_le_pow_right (by decide) (show _ ≤ 8 by simp; omega)) (by decide))
  have hN64 : N < 18446744073709551616 := by
    rw [HH.out.2.2.2.2.2.1]
    exact Nat.lt_of_lt_of_le (lowN_lt _) (Nat.le_trans (Nat.pow_le_pow_right (by decide) (show _ ≤ 8 by simp; omega)) (by decide))
  have hrm : rightM b room = if b.take 24 = halfB S N ∧ (b.drop 24).take 24 = halfB N S ∧ 1 ≤ S ∧ S ≤ 4611686018427387904 ∧ N ≤ room then (S, N) else (0, 0) := by
    rw [HH.out.2.2.2.2.1, HH.out.2.2.2.2.2.1]; rfl
  have HQ := Lib.hid (And.intro hbw (And.intro hS64 (And.intro hN64 hrm)))
  have hroom := HH.out.2.2.2.2.2.2
  clear hwq hbw hS64 hN64 hrm hl
  have cv3 : ∀ W, Bs tb W (some ⟨g, o, none⟩) 24 c (b.take 24) → (convert 31 9 (.slice (some ⟨g, o, none⟩) 24 c)).run Try.prog W = .ok (.string ⟨(b.take 24).toArray⟩) W := fun W h => h.toString Try.underlying31 Try.underlying5 Try.underlying9
  have cv4 : ∀ W, Bs tb W (some ⟨g, o + 24, none⟩) 24 (c - 24) ((b.drop 24).take 24) → (convert 31 9 (.slice (some ⟨g, o + 24, none⟩) 24 (c - 24))).run Try.prog W = .ok (.string ⟨((b.drop 24).take 24).toArray⟩) W := fun W h => h.toString Try.underlying31 Try.underlying5 Try.underlying9
  have kw : IntKind.u64.wrap (room : Int) = (room : Int) := by
    simp only [IntKind.wrap, IntKind.signed, IntKind.bits]
    simp
    omega
  have k6 : (room : Int) ≤ 1000000000 := by omega
  have neS : ∀ {x y : List UInt8}, ¬ x = y → ¬ ((⟨x.toArray⟩ : ByteArray) = ⟨y.toArray⟩) := by
    intro x y h e
    injection e with e
    exact h (by simpa using congrArg Array.toList e)
  have HNE : Hid (∀ {x y : List UInt8}, ¬ x = y → ¬ ((⟨x.toArray⟩ : ByteArray) = ⟨y.toArray⟩)) := neS
  clear neS
  have h1' : ¬ b.take 24 = halfB S N := by rw [HH.out.2.2.2.2.1, HH.out.2.2.2.2.2.1]; exact h1
  have hne := HNE.out h1'
  have H1 := Lib.hid h1'
  clear h1 h1' hroom
  have hS0 : (fun W : World => Bs tb W (some ⟨g, o, none⟩) 24 c (b.take 24) ∧ Below w.heap.size w W) wq.drew := ⟨q3.drew, HQ.out.1.drew⟩
  refine wp_region_held_drew (S := (fun W : World => Bs tb W (some ⟨g, o, none⟩) 24 c (b.take 24) ∧ Below w.heap.size w W)) (by kernel_rfl) hS0 (fun hHeld => ?_)
  clear hHeld
  refine wpAnyH_take (i := 0) (v := .slice (some ⟨g, o, none⟩) 512 c) rfl (by kernel_rfl) (by kernel_rfl) (by kernel_rfl) (fun _ _ _ h => h) (Or.inl ⟨by kernel_rfl, fun W hW => by go_simp⟩) hS0 ?_
  simp only [Act.put, List.getElem_toArray, List.getElem_cons_succ, List.getElem_cons_zero, List.setIfInBounds_toArray, List.set_cons_zero, List.set_cons_succ]
  refine wpAnyH_take (i := 1) (v := .slice (some ⟨g, o, none⟩) 24 c) rfl (by kernel_rfl) (by kernel_rfl) (by kernel_rfl) (fun _ _ _ h => h) (Or.inl ⟨by kernel_rfl, fun W hW => by go_simp⟩) hS0 ?_
  simp only [Act.put, List.getElem_toArray, List.getElem_cons_succ, List.getElem_cons_zero, List.setIfInBounds_toArray, List.set_cons_zero, List.set_cons_succ]
  refine wpAnyH_take (i := 2) (v := .string ⟨(b.take 24).toArray⟩) rfl (by kernel_rfl) (by kernel_rfl) (by kernel_rfl) (fun _ _ _ h => h) (Or.inl ⟨by kernel_rfl, fun W hW => by have h3 := cv3 W hW.1; simp [execOp, Act.eval, h3, Result.andThen]⟩) hS0 ?_
  simp only [Act.put, List.getElem_toArray, List.getElem_cons_succ, List.getElem_cons_zero, List.setIfInBounds_toArray, List.set_cons_zero, List.set_cons_succ]
  refine wpAnyH_take (i := 3) (v := .int .u64 (S : Int)) rfl (by kernel_rfl) (by kernel_rfl) (by kernel_rfl) (fun _ _ _ h => h) (Or.inl ⟨by kernel_rfl, fun W hW => by go_simp⟩) hS0 ?_
  simp only [Act.put, List.getElem_toArray, List.getElem_cons_succ, List.getElem_cons_zero, List.setIfInBounds_toArray, List.set_cons_zero, List.set_cons_succ]
  refine wpAnyH_take (i := 4) (v := .int .u64 (N : Int)) rfl (by kernel_rfl) (by kernel_rfl) (by kernel_rfl) (fun _ _ _ h => h) (Or.inl ⟨by kernel_rfl, fun W hW => by go_simp⟩) hS0 ?_
  simp only [Act.put, List.getElem_toArray, List.getElem_cons_succ, List.getElem_cons_zero, List.setIfInBounds_toArray, List.set_cons_zero, List.set_cons_succ]
  refine wpAnyH_ready (rs := [5]) (by kernel_rfl) (by simp) ?_
  refine AllReadyH.cons rfl (fun K5 hK5 => ?_) AllReadyH.nil
  go_simp
  refine (half_c S N HQ.out.2.1 HQ.out.2.2.1 _).mono ?_
  rintro e w1 ⟨A1, c1, rfl, ho1, hb1⟩
  rw [halfB_len]
  have hc1 := (Bs.of_own ho1).toString (P := Try.prog) (src := 31) (dst := 9) Try.underlying31 Try.underlying5 Try.underlying9
  rw [halfB_len] at hc1
  have hS1 : (fun W : World => Bs tb W (some ⟨g, o, none⟩) 24 c (b.take 24) ∧ Below w.heap.size w W) w1 := ⟨Bs.below hS0.1 hb1, Below.trans hS0.2 (hb1.mono hS0.2.size)⟩
  refine hK5.out _ _ hS1 (fun _ => ?_)
  refine wpAnyH_ready (rs := [6]) (by kernel_rfl) (by simp) ?_
  refine AllReadyH.cons rfl (fun K6 hK6 => ?_) AllReadyH.nil
  refine step_value (w' := w1) (v := .string ⟨(halfB S N).toArray⟩) (by kernel_rfl) (by simp [execOp, Act.eval, hc1, Result.andThen]) ?_
  refine hK6.out _ _ hS1 (fun _ => ?_)
  simp only [Act.put, List.getElem_toArray, List.getElem_cons_succ, List.getElem_cons_zero, List.setIfInBounds_toArray, List.set_cons_zero, List.set_cons_succ]
  refine wpAnyH_take (i := 7) (v := .bool true) rfl (by kernel_rfl) (by kernel_rfl) (by kernel_rfl) (fun _ _ _ h => h) (Or.inl ⟨by kernel_rfl, fun W hW => by go_simp; exact H1.out⟩) hS1 ?_
  simp only [Act.put, List.getElem_toArray, List.getElem_cons_succ, List.getElem_cons_zero, List.setIfInBounds_toArray, List.set_cons_zero, List.set_cons_succ]
  refine wpAnyH_take (i := 8) (v := .bool true) rfl (by kernel_rfl) (by kernel_rfl) (by kernel_rfl) (fun _ _ _ h => h) (Or.inl ⟨by kernel_rfl, fun W hW => by go_simp⟩) hS1 ?_
  simp only [Act.put, List.getElem_toArray, List.getElem_cons_succ, List.getElem_cons_zero, List.setIfInBounds_toArray, List.set_cons_zero, List.set_cons_succ]
  refine wpAnyH_take (i := 9) (v := undef) rfl (by kernel_rfl) (by kernel_rfl) (by kernel_rfl) (fun _ _ _ h => h) (Or.inr ⟨by kernel_rfl, rfl⟩) hS1 ?_
  simp only [Act.put, List.getElem_toArray, List.getElem_cons_succ, List.getElem_cons_zero, List.setIfInBounds_toArray, List.set_cons_zero, List.set_cons_succ]
  refine wpAnyH_take (i := 10) (v := undef) rfl (by kernel_rfl) (by kernel_rfl) (by kernel_rfl) (fun _ _ _ h => h) (Or.inr ⟨by kernel_rfl, rfl⟩) hS1 ?_
  simp only [Act.put, List.getElem_toArray, List.getElem_cons_succ, List.getElem_cons_zero, List.setIfInBounds_toArray, List.set_cons_zero, List.set_cons_succ]
  refine wpAnyH_take (i := 11) (v := undef) rfl (by kernel_rfl) (by kernel_rfl) (by kernel_rfl) (fun _ _ _ h => h) (Or.inr ⟨by kernel_rfl, rfl⟩) hS1 ?_
  simp only [Act.put, List.getElem_toArray, List.getElem_cons_succ, List.getElem_cons_zero, List.setIfInBounds_toArray, List.set_cons_zero, List.set_cons_succ]
  refine wpAnyH_take (i := 12) (v := undef) rfl (by kernel_rfl) (by kernel_rfl) (by kernel_rfl) (fun _ _ _ h => h) (Or.inr ⟨by kernel_rfl, rfl⟩) hS1 ?_
  simp only [Act.put, List.getElem_toArray, List.getElem_cons_succ, List.getElem_cons_zero, List.setIfInBounds_toArray, List.set_cons_zero, List.set_cons_succ]
  refine wpAnyH_take (i := 13) (v := undef) rfl (by kernel_rfl) (by kernel_rfl) (by kernel_rfl) (fun _ _ _ h => h) (Or.inr ⟨by kernel_rfl, rfl⟩) hS1 ?_
  simp only [Act.put, List.getElem_toArray, List.getElem_cons_succ, List.getElem_cons_zero, List.setIfInBounds_toArray, List.set_cons_zero, List.set_cons_succ]
  refine wpAnyH_take (i := 14) (v := undef) rfl (by kernel_rfl) (by kernel_rfl) (by kernel_rfl) (fun _ _ _ h => h) (Or.inr ⟨by kernel_rfl, rfl⟩) hS1 ?_
  simp only [Act.put, List.getElem_toArray, List.getElem_cons_succ, List.getElem_cons_zero, List.setIfInBounds_toArray, List.set_cons_zero, List.set_cons_succ]
  refine wpAnyH_take (i := 15) (v := undef) rfl (by kernel_rfl) (by kernel_rfl) (by kernel_rfl) (fun _ _ _ h => h) (Or.inr ⟨by kernel_rfl, rfl⟩) hS1 ?_
  simp only [Act.put, List.getElem_toArray, List.getElem_cons_succ, List.getElem_cons_zero, List.setIfInBounds_toArray, List.set_cons_zero, List.set_cons_succ]
  refine wpAnyH_take (i := 16) (v := undef) rfl (by kernel_rfl) (by kernel_rfl) (by kernel_rfl) (fun _ _ _ h => h) (Or.inr ⟨by kernel_rfl, rfl⟩) hS1 ?_
  simp only [Act.put, List.getElem_toArray, List.getElem_cons_succ, List.getElem_cons_zero, List.setIfInBounds_toArray, List.set_cons_zero, List.set_cons_succ]
  refine wpAnyH_take (i := 17) (v := .bool true) rfl (by kernel_rfl) (by kernel_rfl) (by kernel_rfl) (fun _ _ _ h => h) (Or.inl ⟨by kernel_rfl, fun W hW => by go_simp⟩) hS1 ?_
  simp only [Act.put, List.getElem_toArray, List.getElem_cons_succ, List.getElem_cons_zero, List.setIfInBounds_toArray, List.set_cons_zero, List.set_cons_succ]
  refine wpAnyH_take (i := 18) (v := .bool true) rfl (by kernel_rfl) (by kernel_rfl) (by kernel_rfl) (fun _ _ _ h => h) (Or.inl ⟨by kernel_rfl, fun W hW => by go_simp⟩) hS1 ?_
  simp only [Act.put, List.getElem_toArray, List.getElem_cons_succ, List.getElem_cons_zero, List.setIfInBounds_toArray, List.set_cons_zero, List.set_cons_succ]
  refine wpAnyH_take (i := 19) (v := undef) rfl (by kernel_rfl) (by kernel_rfl) (by kernel_rfl) (fun _ _ _ h => h) (Or.inr ⟨by kernel_rfl, rfl⟩) hS1 ?_
  simp only [Act.put, List.getElem_toArray, List.getElem_cons_succ, List.getElem_cons_zero, List.setIfInBounds_toArray, List.set_cons_zero, List.set_cons_succ]
  refine wpAnyH_take (i := 20) (v := undef) rfl (by kernel_rfl) (by kernel_rfl) (by kernel_rfl) (fun _ _ _ h => h) (Or.inr ⟨by kernel_rfl, rfl⟩) hS1 ?_
  simp only [Act.put, List.getElem_toArray, List.getElem_cons_succ, List.getElem_cons_zero, List.setIfInBounds_toArray, List.set_cons_zero, List.set_cons_succ]
  refine wpAnyH_take (i := 21) (v := .bool true) rfl (by kernel_rfl) (by kernel_rfl) (by kernel_rfl) (fun _ _ _ h => h) (Or.inl ⟨by kernel_rfl, fun W hW => by go_simp⟩) hS1 ?_
  simp only [Act.put, List.getElem_toArray, List.getElem_cons_succ, List.getElem_cons_zero, List.setIfInBounds_toArray, List.set_cons_zero, List.set_cons_succ]
  refine wpAnyH_take (i := 22) (v := .bool true) rfl (by kernel_rfl) (by kernel_rfl) (by kernel_rfl) (fun _ _ _ h => h) (Or.inl ⟨by kernel_rfl, fun W hW => by go_simp⟩) hS1 ?_
  simp only [Act.put, List.getElem_toArray, List.getElem_cons_succ, List.getElem_cons_zero, List.setIfInBounds_toArray, List.set_cons_zero, List.set_cons_succ]
  refine wpAnyH_take (i := 23) (v := undef) rfl (by kernel_rfl) (by kernel_rfl) (by kernel_rfl) (fun _ _ _ h => h) (Or.inr ⟨by kernel_rfl, rfl⟩) hS1 ?_
  simp only [Act.put, List.getElem_toArray, List.getElem_cons_succ, List.getElem_cons_zero, List.setIfInBounds_toArray, List.set_cons_zero, List.set_cons_succ]
  refine wpAnyH_take (i := 24) (v := undef) rfl (by kernel_rfl) (by kernel_rfl) (by kernel_rfl) (fun _ _ _ h => h) (Or.inr ⟨by kernel_rfl, rfl⟩) hS1 ?_
  simp only [Act.put, List.getElem_toArray, List.getElem_cons_succ, List.getElem_cons_zero, List.setIfInBounds_toArray, List.set_cons_zero, List.set_cons_succ]
  refine wpAnyH_take (i := 25) (v := .bool true) rfl (by kernel_rfl) (by kernel_rfl) (by kernel_rfl) (fun _ _ _ h => h) (Or.inl ⟨by kernel_rfl, fun W hW => by go_simp⟩) hS1 ?_
  simp only [Act.put, List.getElem_toArray, List.getElem_cons_succ, List.getElem_cons_zero, List.setIfInBounds_toArray, List.set_cons_zero, List.set_cons_succ]
  refine wpAnyH_take (i := 26) (v := .bool true) rfl (by kernel_rfl) (by kernel_rfl) (by kernel_rfl) (fun _ _ _ h => h) (Or.inl ⟨by kernel_rfl, fun W hW => by go_simp⟩) hS1 ?_
  simp only [Act.put, List.getElem_toArray, List.getElem_cons_succ, List.getElem_cons_zero, List.setIfInBounds_toArray, List.set_cons_zero, List.set_cons_succ]
  refine wpAnyH_take (i := 27) (v := undef) rfl (by kernel_rfl) (by kernel_rfl) (by kernel_rfl) (fun _ _ _ h => h) (Or.inr ⟨by kernel_rfl, rfl⟩) hS1 ?_
  simp only [Act.put, List.getElem_toArray, List.getElem_cons_succ, List.getElem_cons_zero, List.setIfInBounds_toArray, List.set_cons_zero, List.set_cons_succ]
  refine wpAnyH_take (i := 28) (v := undef) rfl (by kernel_rfl) (by kernel_rfl) (by kernel_rfl) (fun _ _ _ h => h) (Or.inr ⟨by kernel_rfl, rfl⟩) hS1 ?_
  simp only [Act.put, List.getElem_toArray, List.getElem_cons_succ, List.getElem_cons_zero, List.setIfInBounds_toArray, List.set_cons_zero, List.set_cons_succ]
  refine wpAnyH_take (i := 29) (v := undef) rfl (by kernel_rfl) (by kernel_rfl) (by kernel_rfl) (fun _ _ _ h => h) (Or.inr ⟨by kernel_rfl, rfl⟩) hS1 ?_
  simp only [Act.put, List.getElem_toArray, List.getElem_cons_succ, List.getElem_cons_zero, List.setIfInBounds_toArray, List.set_cons_zero, List.set_cons_succ]
  refine wpAnyH_take (i := 30) (v := undef) rfl (by kernel_rfl) (by kernel_rfl) (by kernel_rfl) (fun _ _ _ h => h) (Or.inr ⟨by kernel_rfl, rfl⟩) hS1 ?_
  simp only [Act.put, List.getElem_toArray, List.getElem_cons_succ, List.getElem_cons_zero, List.setIfInBounds_toArray, List.set_cons_zero, List.set_cons_succ]
  refine wpAnyH_take (i := 31) (v := .bool true) rfl (by kernel_rfl) (by kernel_rfl) (by kernel_rfl) (fun _ _ _ h => h) (Or.inl ⟨by kernel_rfl, fun W hW => by go_simp⟩) hS1 ?_
  simp only [Act.put, List.getElem_toArray, List.getElem_cons_succ, List.getElem_cons_zero, List.setIfInBounds_toArray, List.set_cons_zero, List.set_cons_succ]
  refine wpAnyH_done (by kernel_rfl) ?_ _
  have HE := Lib.hid (And.intro hS1.2 HQ.out.2.2.2)
  clear cv3 cv4 q3 q4 hS0 hS1 hc1 ho1 hb1
  go_wp2_with fail
  go_ret2
  exact ⟨by rw [HE.out.2, if_neg (fun h => H1.out h.1)]; rfl, HE.out.1⟩
end Go.Proofs.Ytliakkpmmmgmhaa
/- A journal is opened: its two heads are read. -/
namespace Go.Proofs.Ytliakkpmmmgmhaa
open Go.RowKit

theorem right_ok {tb : TypeId} (A : Option Addr) (c : Nat) (b : List UInt8) (room : Nat) (w : World) (h : Bs tb w A 512 c b) (hr : room ≤ 1000000000) (hok : RightOk b room) :
    Calls Try.prog 78 #[.slice A 512 c, .int .i64 room] w (RightDone w (rightM b room)) := by
  rcases hok.2 with h1 | h1
  · exact right_good A c b room w h hr _ _ rfl h1
  · exact right_bad A c b room w h hr h1
set_option maxRecDepth 100000 in
set_option maxHeartbeats 1000000 in
theorem clipb_c (A : Option Addr) (n c : Nat) (w : World) (hnc : n ≤ c) (hm : c ≤ maxLen) (hA : A = none → n = 0 ∧ c = 0) : Calls Try.prog 79 #[.slice A n c] w fun e w' => e = .returned (.slice A n n) ∧ w = w' := by
  have hbig : (c : Int) ≤ 9223372036854775807 := by simp only [maxLen] at hm; omega
  have hcn : (n : Int) ≤ c := by omega
  cases A with
  | none =>
    obtain ⟨rfl, rfl⟩ := hA rfl
    go_enter Try.func79, Try.ntmps79
    go_wp2_with fail
    go_ret
    exact ⟨rfl, rfl⟩
  | some a =>
    clear hA
    go_enter Try.func79, Try.ntmps79
    go_wp2_with fail
    go_ret
    exact ⟨rfl, rfl⟩
/-- The best of the heads that were read. -/
def bestK (r0 r1 : Nat × Nat) : Nat → Nat × Nat
  | 0 => (0, 0)
  | 1 => r0
  | _ => if r0.1 < r1.1 then r1 else r0
def logHead0 (d frm room seq : Nat) : Array Value := #[.pointer (some ⟨d, 0, none⟩), .int .i64 (frm : Int), .int .i64 (room : Int), .int .u64 (seq : Int), .slice none 0 0, .int .i64 0, .bool false]
def OpenRel (w : World) (d lb frm room : Nat) (r0 r1 : Nat × Nat) (n i : Value) (wr : World) : Prop :=
  ∃ k : Nat, k ≤ 2 ∧ i = .int .i64 (k : Int) ∧ n = .int .i64 ((bestK r0 r1 k).2 : Int) ∧ Hid (Blk wr lb 126 (logHead0 d frm room (bestK r0 r1 k).1)) ∧ Hid (Below w.heap.size w wr)
theorem best_one {r0 r1 : Nat × Nat} (h : r0.1 = 0 → r0.2 = 0) : (if (bestK r0 r1 0).1 < r0.1 then r0 else bestK r0 r1 0) = bestK r0 r1 1 := by
  show (if 0 < r0.1 then r0 else (0, 0)) = r0
  by_cases e : 0 < r0.1
  · rw [if_pos e]
  · rw [if_neg e]
    have h1 : r0.1 = 0 := by omega
    have h2 := h h1
    exact Prod.ext h1.symm h2.symm
theorem right_zero {b : List UInt8} {room : Nat} (h : (rightM b room).1 = 0) : (rightM b room).2 = 0 := by
  unfold rightM at *
  split at h
  · rename_i hc
    simp only at h; omega
  · rename_i hc
    rw [if_neg hc]
theorem right_le {b : List UInt8} {room : Nat} : (rightM b room).2 ≤ room ∧ (rightM b room).1 ≤ 4611686018427387904 := by
  unfold rightM
  split
  · rename_i hc; exact ⟨hc.2.2.2.2, hc.2.2.2.1⟩
  · exact ⟨Nat.zero_le _, Nat.zero_le _⟩

theorem best_step {r0 r1 : Nat × Nat} (h : r0.1 = 0 → r0.2 = 0) {k : Nat} (hk : k < 2) : bestK r0 r1 (k + 1) = if (bestK r0 r1 k).1 < (if k = 0 then r0 else r1).1 then (if k = 0 then r0 else r1) else bestK r0 r1 k := by
  have : k = 0 ∨ k = 1 := by omega
  rcases this with rfl | rfl
  · exact (best_one (r1 := r1) h).symm
  · rfl
/-- A journal in memory that was opened on an empty part of a disk. -/
def OpenedNew (w : World) (D : DiskG) (frm room : Nat) (e : Ending) (w' : World) : Prop :=
  ∃ D' J', e = .returned (.tuple #[.pointer (some ⟨J'.b, 0, none⟩), .slice none 0 0, .int .i64 0]) ∧ DiskRep w' D' ∧ LogRep w' D.d J' ∧ Turned (fun k => k = D.d ∨ k = D.bb) w w' ∧ D'.d = D.d ∧ D'.bb = D.bb ∧ D'.L.length = D.L.length ∧ D'.Live ∧ D'.sync ∧
      w.heap.size ≤ J'.b ∧ J'.frm = frm ∧ J'.room = room ∧ J'.seq = 1 ∧ J'.data = [] ∧ LogDisk D'.now J' ∧ SameOut D.now D'.now J'
/-- A journal in memory that was found. -/
def OpenedOld (w : World) (D : DiskG) (J : LogG) (recs : List (List UInt8)) (e : Ending) (w' : World) : Prop :=
  ∃ v J', e = .returned (.tuple #[.pointer (some ⟨J'.b, 0, none⟩), v, .int .i64 0]) ∧ RecsOwn w.heap.size w' v recs ∧ DiskRep w' D ∧ LogRep w' D.d J' ∧ Below w.heap.size w w' ∧ w.heap.size ≤ J'.b ∧ J'.frm = J.frm ∧ J'.room = J.room ∧ J'.seq = J.seq ∧ J'.data = J.data
def OpenCase (D : DiskG) (frm room : Nat) (r : Nat × Nat) : Option (LogG × List (List UInt8)) → Prop
  | none => r.1 = 0 ∧ ∀ b, D.now[frm]? = some b → rightM b room = (0, 0) ∧ RightOk b room
  | some (J, recs) => r = (J.seq, J.data.length) ∧ LogDisk D.now J ∧ J.frm = frm ∧ J.room = room ∧ J.data.length ≤ room ∧ J.seq ≤ 4611686018427387904 ∧ J.data = frames recs ∧ (∀ s ∈ recs, 0 < s.length) ∧ recs.length ≤ 1000000
def OpenPost (w : World) (D : DiskG) (frm room : Nat) : Option (LogG × List (List UInt8)) → Ending → World → Prop
  | none => OpenedNew w D frm room
  | some (J, recs) => OpenedOld w D J recs

/-- The first m blocks from a place on, one behind the other. -/
def allM (N : List (List UInt8)) (base m : Nat) : List UInt8 := (List.range m).flatMap (fun k => (N[base + k]?).getD [])
theorem allM_succ {N : List (List UInt8)} {base m : Nat} {b : List UInt8} (h : N[base + m]? = some b) : allM N base (m + 1) = allM N base m ++ b := by
  unfold allM
  rw [List.range_succ, List.flatMap_append]
  simp [h]
set_option maxRecDepth 100000 in
theorem allM_data {N : List (List UInt8)} {J : LogG} (h : LogDisk N J) (h5 : ∀ (i : Nat) (b : List UInt8), N[i]? = some b → b.length = 512) : ∀ m, (m = 0 ∨ (m - 1) * 512 < J.data.length) → (allM N (J.frm + 2) m).length = m * 512 ∧ (allM N (J.frm + 2) m).take J.data.length = J.data.take (m * 512) := by
  intro m
  induction m with
  | zero => intro _; exact ⟨rfl, by simp [allM]⟩
  | succ m ih =>
    intro hm
    have hm' : m * 512 < J.data.length := by rcases hm with h | h <;> omega
    obtain ⟨z, hz⟩ := h.data m hm'
    obtain ⟨i1, i2⟩ := ih (by omega)
    have hl := h5 _ _ hz
    rw [allM_succ hz]
    refine ⟨by rw [List.length_append, i1, hl]; omega, ?_⟩
    have e0 : allM N (J.frm + 2) m = J.data.take (m * 512) := by
      rw [← i2, List.take_of_length_le (by rw [i1]; omega)]
    rw [List.take_append, i1, e0, List.take_take, Nat.min_eq_right (by omega)]
    have e1 : ((J.data.drop (m * 512)).take 512 ++ z).take (J.data.length - m * 512) = (J.data.drop (m * 512)).take 512 := by
      by_cases hb : J.data.length - m * 512 ≤ 512
      · have h1 : (J.data.drop (m * 512)).take 512 = J.data.drop (m * 512) := List.take_of_length_le (by rw [List.length_drop]; omega)
        rw [h1, List.take_append_of_le_length (by rw [List.length_drop]; omega), List.take_of_length_le (by rw [List.length_drop]; omega)]
      · have h1 : ((J.data.drop (m * 512)).take 512).length = 512 := by rw [List.length_take, List.length_drop]; omega
        have h2 : z = [] := by
          rw [List.length_append, h1] at hl
          exact List.eq_nil_of_length_eq_zero (by omega)
        subst h2
        rw [List.append_nil, List.take_of_length_le (by rw [h1]; omega)]
    rw [e1]
    have : J.data.take ((m + 1) * 512) = J.data.take (m * 512) ++ (J.data.drop (m * 512)).take 512 := by
      rw [show (m + 1) * 512 = m * 512 + 512 by omega, List.take_add]
    rw [this]
def OldRel (w : World) (N : List (List UInt8)) (d lb frm room : Nat) (seq : Nat) (dl : Nat) (v i : Value) (wr : World) : Prop :=
  ∃ m : Nat, (m = 0 ∨ (m - 1) * 512 < dl) ∧ i = .int .i64 ((m * 512 : Nat) : Int) ∧ Hid (wr.ownsRow w.heap.size 5 1 v (m * 512) (u8s (allM N (frm + 2) m))) ∧ Hid (Blk wr lb 126 (logHead0 d frm room seq)) ∧ Hid (Below w.heap.size w wr)
set_option maxRecDepth 100000 in
set_option maxHeartbeats 8000000 in
theorem wopen_c (D : DiskG) (frm B : Nat) (b0 b1 : List UInt8) (o : Option (LogG × List (List UInt8))) (w : World) (hD : DiskRep w D) (hL : D.Live) (hW : D.W = []) (hB : 3 ≤ B) (hB2 : B ≤ 300) (hfr : frm + B ≤ D.L.length) (h0 : D.now[frm]? = some b0) (h1 : D.now[frm + 1]? = some b1)
    (ho0 : RightOk b0 ((B - 2) * 512)) (ho1 : RightOk b1 ((B - 2) * 512)) (ho : OpenCase D frm ((B - 2) * 512) (bestK (rightM b0 ((B - 2) * 512)) (rightM b1 ((B - 2) * 512)) 2) o) :
    Calls Try.prog 63 #[.pointer (some ⟨D.d, 0, none⟩), .int .i64 (frm : Int), .int .i64 (B : Int)] w (OpenPost w D frm ((B - 2) * 512) o) := by
  have hbl := blocks_c D w hD
  have hl := hD.len
  obtain ⟨bl, hblk⟩ : ∃ bl, bl = D.L.length := ⟨_, rfl⟩
  rw [← hblk] at hbl hl
  obtain ⟨room, hroom⟩ : ∃ room, room = (B - 2) * 512 := ⟨_, rfl⟩
  rw [← hroom] at ho0 ho1 ho ⊢
  obtain ⟨r0, hr0⟩ : ∃ r0, r0 = rightM b0 room := ⟨_, rfl⟩
  obtain ⟨r1, hr1⟩ : ∃ r1, r1 = rightM b1 room := ⟨_, rfl⟩
  rw [← hr0, ← hr1] at ho
  have HH := Lib.hid (And.intro hD (And.intro hL (And.intro hW (And.intro h0 (And.intro h1 (And.intro hfr (And.intro hblk (And.intro ho0 (And.intro ho1 (And.intro ho (And.intro hr0 hr1)))))))))))
  have e1 : ((B : Int) - 2) * 512 = (room : Int) := by omega
  have z1 : (3 : Int) ≤ (B : Int) := by omega
  have z2 : (B : Int) ≤ 300 := by omega
  have z3 : (frm : Int) + (B : Int) ≤ (bl : Int) := by omega
  have z4 : (bl : Int) ≤ 4096 := by omega
  have z5 : (room : Int) ≤ 200000 := by omega
  have k1 : decide ((frm : Int) < 0) = false := decide_eq_false (by omega)
  have k2 : decide ((B : Int) < 3) = false := decide_eq_false (by omega)
  have k3 : decide ((bl : Int) < (B : Int)) = false := decide_eq_false (by omega)
  have k3' : decide (bl < B) = false := decide_eq_false (by omega)
  have k4 : decide ((bl : Int) - (B : Int) < (frm : Int)) = false := decide_eq_false (by omega)
  have HBl := Lib.hid hbl
  have HR := Lib.hid (And.intro hroom (And.intro hB hB2))
  clear hD hL hW h0 h1 hfr hblk hbl hl hroom hB hB2 ho0 ho1 ho hr0 hr1
  go_enter Try.func63, Try.ntmps63
  go_wp2_with fail
  refine HBl.out.mono ?_
  rintro e w1 ⟨rfl, rfl⟩
  go_wp2_with fail
  refine HBl.out.mono ?_
  rintro e w1 ⟨rfl, rfl⟩
  go_wp2_with fail
  have HW0 : Hid (OpenRel w D.d w.heap.size frm room r0 r1 (.int .i64 0) (.int .i64 0) (w.alloc (.cells (logHead0 D.d frm room 0) 126))) := ⟨0, by omega, rfl, rfl, Blk.new w _ _, (Below.refl _ _).alloc (Nat.le_refl _) _⟩
  clear HBl
  go_loopw [10, 54] (fun n i wr => OpenRel w D.d w.heap.size frm room r0 r1 n i wr) (fun _ i _ => 2 - (intOf i).toNat)
  case atStart => exact HW0.out
  case round =>
    clear HW0
    obtain ⟨k, hk, rfl, rfl, HB, HW⟩ := hrel
    by_cases hk2 : k < 2
    · obtain ⟨F, hF⟩ : ∃ F, F = frm + k := ⟨_, rfl⟩
      have e2 : (frm : Int) + (k : Int) = (F : Int) := by omega
      have hDr := HH.out.1.below HW.out
      have hF2 : F < D.L.length := by have := HH.out.2.2.2.2.2.1; have := HR.out; omega
      obtain ⟨x, hx⟩ : ∃ x, D.L[F]? = some x := ⟨_, List.getElem?_eq_getElem hF2⟩
      have hnF : D.now[F]? = some x.1 := by unfold DiskG.now; rw [List.getElem?_map, hx]; rfl
      have hbk : x.1 = if k = 0 then b0 else b1 := by
        have : k = 0 ∨ k = 1 := by omega
        rcases this with rfl | rfl
        · have := HH.out.2.2.2.1
          rw [show frm = F by omega, hnF] at this
          injection this
        · have := HH.out.2.2.2.2.1
          rw [show frm + 1 = F by omega, hnF] at this
          injection this
      have hm0 : hasM D (F : Int) = 0 := by
        unfold hasM
        rw [if_neg (by rw [HH.out.2.1.up]; decide), if_neg (by omega)]
      have hrd := dread_c D (F : Int) wr hDr
      have c2 : wr.cell? ⟨w.heap.size, 2, none⟩ = some (.int .i64 (room : Int)) := HB.out.cell 2
      have HX := Lib.hid (And.intro hx (And.intro hbk (And.intro hm0 hF)))
      clear hDr hF2 hx hnF hbk hm0 hF
      go_wp2_with fail
      refine hrd.mono ?_
      clear hrd
      rintro e w2 ⟨hb2, ⟨hbad, _⟩ | ⟨_, v, x', rfl, hx', hf⟩⟩
      · exact absurd HX.out.2.2.1 hbad
      have ex : x' = x := by
        rw [Int.toNat_natCast, HX.out.1] at hx'
        injection hx' with hx'
        exact hx'.symm
      subst ex
      obtain ⟨A, n, c, rfl, hbs, _⟩ := hf
      have hn512 : n = 512 := by rw [← hbs.len]; exact (HH.out.1.row F x' HX.out.1).1
      subst hn512
      have c2' : w2.cell? ⟨w.heap.size, 2, none⟩ = some (.int .i64 (room : Int)) := (HB.out.below hb2 HB.out.lt).cell 2
      have H2 := Lib.hid (And.intro hb2 hbs)
      clear hb2 hbs hx' c2
      go_wp2_with fail
      refine (right_ok A c x'.1 room w2 H2.out.2 (by omega) (by rw [HX.out.2.1]; split; exact HH.out.2.2.2.2.2.2.2.1; exact HH.out.2.2.2.2.2.2.2.2.1)).mono ?_
      rintro e w3 ⟨rfl, hb3⟩
      obtain ⟨rk, hrk⟩ : ∃ rk, rk = rightM x'.1 room := ⟨_, rfl⟩
      have hrk2 : rk = if k = 0 then r0 else r1 := by
        rw [hrk, HX.out.2.1]
        by_cases hk0 : k = 0
        · rw [if_pos hk0, if_pos hk0]; exact HH.out.2.2.2.2.2.2.2.2.2.2.1.symm
        · rw [if_neg hk0, if_neg hk0]; exact HH.out.2.2.2.2.2.2.2.2.2.2.2.symm
      have hz0 : r0.1 = 0 → r0.2 = 0 := by rw [HH.out.2.2.2.2.2.2.2.2.2.2.1]; exact right_zero
      have hst := best_step (r1 := r1) hz0 hk2
      rw [← hrk2] at hst
      rw [← hrk]
      have hbe3 : Below w.heap.size w w3 := HW.out.trans ((H2.out.1.mono HW.out.size).trans (hb3.mono (Nat.le_trans HW.out.size H2.out.1.size)))
      have hBk : Blk w3 w.heap.size 126 (logHead0 D.d frm room (bestK r0 r1 k).1) := (HB.out.below H2.out.1 HB.out.lt).below hb3 (HB.out.below H2.out.1 HB.out.lt).lt
      obtain ⟨bst, hbst⟩ : ∃ bst, bst = bestK r0 r1 k := ⟨_, rfl⟩
      rw [← hbst] at hst hBk ⊢
      have c3 : w3.cell? ⟨w.heap.size, 3, none⟩ = some (.int .u64 (bst.1 : Int)) := hBk.cell 3
      have f3 := hBk.frozen 3
      have hrn : (rk.2 : Int) ≤ 1000000 := by
        have := (right_le (b := x'.1) (room := room)).1
        rw [hrk]; omega
      have H3 := Lib.hid (And.intro hst (And.intro hbe3 hBk))
      clear hrk hrk2 hz0 hst hbe3 hBk hbst c2' hb3
      by_cases hgt : bst.1 < rk.1
      · have hgt' : (bst.1 : Int) < (rk.1 : Int) := by omega
        have hst2 : bestK r0 r1 (k + 1) = rk := by rw [H3.out.1, if_pos hgt]
        have HS := Lib.hid hst2
        clear hst2 hgt
        go_wp2_with fail
        go_roundw
        case rel =>
          refine ⟨k + 1, by omega, by go_num, by rw [HS.out], ?_, H3.out.2.1.setCell (p := ⟨w.heap.size, 3, none⟩) (Nat.le_refl _) _⟩
          show Blk _ _ _ _
          rw [HS.out]
          have := H3.out.2.2.set_ 3 (.int .u64 (rk.1 : Int))
          simpa [logHead0] using this
        case measure => simp [intOf]; omega
      · have hgt' : ¬ ((bst.1 : Int) < (rk.1 : Int)) := by omega
        have hst2 : bestK r0 r1 (k + 1) = bst := by rw [H3.out.1, if_neg hgt]
        have HS := Lib.hid hst2
        clear hst2 hgt
        go_wp2_with fail
        go_roundw
        case rel =>
          refine ⟨k + 1, by omega, by go_num, by rw [HS.out], ?_, H3.out.2.1⟩
          show Blk _ _ _ _
          rw [HS.out]; exact H3.out.2.2
        case measure => simp [intOf]; omega
    · obtain rfl : k = 2 := by omega
      obtain ⟨bst, hbst⟩ : ∃ bst, bst = bestK r0 r1 2 := ⟨_, rfl⟩
      rw [← hbst] at HB ⊢
      rw [show ((2 : Nat) : Int) = (2 : Int) from rfl]
      have c3 : wr.cell? ⟨w.heap.size, 3, none⟩ = some (.int .u64 (bst.1 : Int)) := HB.out.cell 3
      cases o with
      | none =>
        obtain ⟨ho1, _⟩ := HH.out.2.2.2.2.2.2.2.2.2.1
        rw [← hbst] at ho1
        have HX := Lib.hid ho1
        rw [ho1] at c3
        clear ho1 hbst
        go_wp2_with fail
        obtain ⟨J0, hJ0⟩ : ∃ J0 : LogG, J0 = { b := w.heap.size, frm := frm, room := room, seq := 0, A := none, c := 0, data := [], count := 0 } := ⟨_, rfl⟩
        have hblk : Blk wr J0.b 126 (J0.head D.d) := by
          have := HB.out
          rw [HX.out] at this
          rw [hJ0]; exact this
        have hJr : LogRep wr D.d J0 := ⟨hblk, by rw [hJ0]; exact Bs.nil _ _, by rw [hJ0]; exact Nat.zero_le _, by rw [hJ0]; show room ≤ _; omega, by rw [hJ0]; show frm ≤ _; omega, by rw [hJ0]; exact Nat.zero_le _⟩
        have hDr := HH.out.1.below HW.out
        have hhd := head_c D J0 1 0 wr hDr hJr HH.out.2.1 (by rw [HH.out.2.2.1]; exact Nat.zero_le _) (by omega) (by omega) (by rw [hJ0]; show frm + 1 < _; have := HH.out.2.2.2.2.2.1; have := HR.out; omega)
        rw [show J0.b = w.heap.size by rw [hJ0]] at hhd
        refine hhd.mono ?_
        clear hhd
        rintro e w2 ⟨rfl, D2, h1, h2, h3, h4, h5, h6, h7, h8, h9⟩
        have H2 := Lib.hid (And.intro h1 (And.intro h2 (And.intro h3 (And.intro h4 (And.intro h5 (And.intro h6 (And.intro h7 (And.intro h8 (And.intro h9 hJ0)))))))))
        clear h1 h2 h3 h4 h5 h6 h7 h8 h9 hJ0 hblk hJr hDr c3
        go_wp2_with fail
        go_ret3
        obtain ⟨h1, h2, h3, h4, h5, h6, h7, h8, h9, hJ0⟩ := H2.out
        have hbig : w.heap.size ≤ wr.heap.size := HW.out.size
        have hT : Turned (fun k => k = D.d ∨ k = D.bb) w w2 := (Turned.of_below (S := fun k => k = D.d ∨ k = D.bb) HW.out).trans h3 (fun k hk e => by
          rcases e with e | e | e
          · exact .inl e
          · exact .inr e
          · rw [hJ0] at e
            exact absurd e (by show ¬ k = w.heap.size; omega))
        refine ⟨D2, { J0 with seq := 1 }, by rw [hJ0]; rfl, h1, h2, hT, h4, h5, h6, h7, h8, by rw [hJ0]; exact Nat.le_refl _, by rw [hJ0], by rw [hJ0], rfl, by rw [hJ0], ?_, ?_⟩
        · rw [h9]
          have hN := HH.out.2.2.2.1
          have hlen : frm + 1 < D.now.length := by rw [D.now_len]; have := HH.out.2.2.2.2.2.1; have := HR.out; omega
          rw [hJ0]
          refine ⟨Nat.le_refl _, ⟨zeros 464, ?_, zeros_len _⟩, fun b hb => ?_, fun k hk => absurd hk (Nat.not_lt_zero _)⟩
          · show (D.now.set (frm + 1 % 2) _)[frm + 1 % 2]? = _
            rw [List.getElem?_set_self (by omega)]; rfl
          · have hb' : (D.now.set (frm + 1 % 2) (headB 1 0 ++ zeros 464))[frm + 2 % 2]? = some b := hb
            rw [List.getElem?_set_ne (by omega)] at hb'
            have := HH.out.2.2.2.2.2.2.2.2.2.1.2 b hb'
            show (rightM b room).1 < 1 ∧ RightOk b room
            rw [this.1]
            exact ⟨by decide, this.2⟩
        · intro i hi
          rw [h9, List.getElem?_set_ne]
          rw [hJ0] at hi ⊢
          rcases hi with hi | hi
          · have : i < frm := hi
            show frm + 1 % 2 ≠ i; omega
          · have : frm + 2 + room / 512 ≤ i := hi
            show frm + 1 % 2 ≠ i; omega
      | some p =>
        obtain ⟨J, recs⟩ := p
        obtain ⟨hbe, hon, hf1, hrm1, hdl, hsq, hdr, hrp, hrc⟩ := HH.out.2.2.2.2.2.2.2.2.2.1
        rw [← hbst] at hbe
        have hs1 : bst.1 = J.seq := by rw [hbe]
        have hs2 : bst.2 = J.data.length := by rw [hbe]
        have hpos := hon.pos
        obtain ⟨dl, hdl'⟩ : ∃ dl, dl = J.data.length := ⟨_, rfl⟩
        obtain ⟨sq, hsq'⟩ : ∃ sq : Int, sq = (J.seq : Int) := ⟨_, rfl⟩
        rw [hs1, ← hsq'] at c3
        rw [hs2, ← hdl']
        have q0 : ¬ (sq = 0) := by omega
        have k5 : (sq == 0) = false := by simpa using q0
        have q1 : (dl : Int) ≤ 200000 := by omega
        have HX := Lib.hid (And.intro hon (And.intro hf1 (And.intro hrm1 (And.intro hdl (And.intro hsq (And.intro hdr (And.intro hrp (And.intro hrc (And.intro hdl' (And.intro hsq' hs1))))))))))
        clear hbst hbe hon hf1 hrm1 hdl hsq hdr hrp hrc hs1 hs2 hpos hdl' hsq'
        go_wp2_with fail
        clear c3 q0
        have h5 : ∀ (i : Nat) (b : List UInt8), D.now[i]? = some b → b.length = 512 := by
          intro i b hb
          unfold DiskG.now at hb
          rw [List.getElem?_map] at hb
          cases hx : D.L[i]? with
          | none => rw [hx] at hb; simp at hb
          | some x =>
            rw [hx] at hb; simp at hb; subst hb
            exact (HH.out.1.row i x hx).1
        have hall := allM_data HX.out.1 h5
        rw [HX.out.2.1, ← HX.out.2.2.2.2.2.2.2.2.1] at hall
        have HA := Lib.hid (And.intro h5 hall)
        have hB0 : Blk wr w.heap.size 126 (logHead0 D.d frm room J.seq) := by rw [← HX.out.2.2.2.2.2.2.2.2.2.2]; exact HB.out
        have HB0 := Lib.hid hB0
        clear h5 hall hB0
        go_loopw [17, 18] (fun v i wr2 => OldRel w D.now D.d w.heap.size frm room J.seq dl v i wr2) (fun _ i _ => dl - (intOf i).toNat)
        case atStart => exact ⟨0, .inl rfl, rfl, World.ownsRow_nil _ _ _ _, HB0.out, HW.out⟩
        case round =>
          obtain ⟨m, hm, rfl, HO, HBk, HW2⟩ := hrel
          obtain ⟨I5, hI5⟩ : ∃ I5 : Nat, I5 = m * 512 := ⟨_, rfl⟩
          rw [← hI5] at HO ⊢
          obtain ⟨A2, c2, rfl, hfr⟩ := own_form HO.out
          by_cases hlt : I5 < dl
          · obtain ⟨F, hF⟩ : ∃ F, F = frm + 2 + m := ⟨_, rfl⟩
            have d1 : (I5 : Int) / 512 = (m : Int) := by omega
            have d2 : (I5 : Int).tdiv 512 = (m : Int) := by rw [Int.tdiv_eq_ediv_of_nonneg (by omega)]; exact d1
            have d3 : (frm : Int) + 2 + (m : Int) = (F : Int) := by omega
            have hFl : F < D.L.length := by have := HH.out.2.2.2.2.2.1; have := HR.out; have := HX.out.2.2.2.1; have := HX.out.2.2.2.2.2.2.2.2.1; omega
            have d4 : (F : Int) ≤ 4096 := by have := HH.out.2.2.2.2.2.2.1; omega
            have d5 : (I5 : Int) < (dl : Int) := by omega
            obtain ⟨x, hx⟩ : ∃ x, D.L[F]? = some x := ⟨_, List.getElem?_eq_getElem hFl⟩
            have hnF : D.now[F]? = some x.1 := by unfold DiskG.now; rw [List.getElem?_map, hx]; rfl
            have hm0 : hasM D (F : Int) = 0 := by
              unfold hasM
              rw [if_neg (by rw [HH.out.2.1.up]; decide), if_neg (by omega)]
            have hrd := dread_c D (F : Int) wr (HH.out.1.below HW2.out)
            have hnx : allM D.now (frm + 2) (m + 1) = allM D.now (frm + 2) m ++ x.1 := allM_succ (by rw [← hF]; exact hnF)
            have HY := Lib.hid (And.intro hm (And.intro hI5 (And.intro hlt (And.intro hx (And.intro hm0 (And.intro hnx hfr))))))
            clear hm hI5 hlt hF hFl hx hnF hm0 hnx hfr
            go_wp2_with fail
            refine hrd.mono ?_
            clear hrd
            rintro e w2 ⟨hb2, ⟨hbad, _⟩ | ⟨_, v, x', rfl, hx', hf⟩⟩
            · exact absurd HY.out.2.2.2.2.1 hbad
            have ex : x' = x := by
              rw [Int.toNat_natCast, HY.out.2.2.2.1] at hx'
              injection hx' with hx'
              exact hx'.symm
            subst ex
            obtain ⟨A, n, c, rfl, hbs, _⟩ := hf
            have hn512 : n = 512 := by rw [← hbs.len]; exact (HH.out.1.row F x' HY.out.2.2.2.1).1
            subst hn512
            obtain ⟨i0, hi, hz, hs', hb'⟩ := info_parts info8
            have H2 := Lib.hid (And.intro hb2 (And.intro hbs (And.intro (ownsRow_below HO.out hb2) (And.intro hi (And.intro hz (And.intro hs' hb'))))))
            clear hb2 hbs hx' hi hz hs' hb'
            go_wp2_with (
              (refine at_dst 120 rfl ?_)
              (refine wpList_append_bs rfl (.tmp 118) (.tmp 119) 31 rfl Try.underlying31 H2.out.2.2.2.1 H2.out.2.2.2.2.1 H2.out.2.2.2.2.2.1 H2.out.2.2.2.2.2.2 w.heap.size _ rfl H2.out.2.2.1 rfl H2.out.2.1 (by omega) (Nat.le_trans HW2.out.size H2.out.1.size) ?_)
              intro v4 w4 hown4 hgr4 _
              have hb4 := (HW2.out.trans (H2.out.1.mono HW2.out.size)).grown hgr4 (Nat.le_trans HW2.out.size H2.out.1.size) HY.out.2.2.2.2.2.2
              have hne : ∀ gg, (Value.slice A2 I5 c2).ownBlock = some gg → gg ≠ w.heap.size := by
                intro gg hgg e
                subst e
                rcases HO.out.2 with ⟨he, _⟩ | ⟨g', cap, cur, he, _, hh, _⟩
                · rw [he] at hgg; simp [Value.ownBlock] at hgg
                · rw [he] at hgg
                  have : g' = w.heap.size := by simpa [Value.ownBlock] using hgg
                  subst this
                  exact Blk.ne_ (t := 5) hh HBk.out (by decide) rfl
              have hBk4 : Blk w4 w.heap.size 126 (logHead0 D.d frm room J.seq) := (hgr4.block w.heap.size (Nat.lt_of_lt_of_le HBk.out.lt H2.out.1.size) (fun e => hne _ e.symm rfl)).trans (HBk.out.below H2.out.1 HBk.out.lt)
              have H4 := Lib.hid (And.intro hown4 (And.intro hb4 hBk4))
              clear hown4 hgr4 hb4 hne hBk4)
            go_roundw
            case rel =>
              refine ⟨m + 1, .inr (by have := HY.out; omega), ?_, ?_, H4.out.2.2, H4.out.2.1⟩
              · have := HY.out.2.1
                rw [show (((m + 1) * 512 : Nat) : Int) = (I5 : Int) + 512 by omega]
              · show World.ownsRow _ _ _ _ _ _ _
                rw [HY.out.2.2.2.2.2.1, u8s_append, show (m + 1) * 512 = I5 + 512 by have := HY.out.2.1; omega]
                exact H4.out.1
            case measure => simp [intOf]; omega
          · have hdlv : J.data = frames recs := HX.out.2.2.2.2.2.1
            have hdl' := HX.out.2.2.2.2.2.2.2.2.1
            have hb : Bs 5 wr A2 I5 c2 (allM D.now (frm + 2) m) := Bs.of_own HO.out
            have hmr := HA.out.2 m hm
            have hBs : Bs 5 wr A2 dl c2 (frames recs) := by
              have := hb.take (k := dl) (by omega)
              rw [hmr.2, hdlv, List.take_of_length_le (by rw [← hdlv, ← hdl']; omega)] at this
              exact this
            have hOw := HO.out
            have hbk3 := HBk.out
            have hbl3 := HW2.out
            have hc2m := hb.most
            have hc2c := hb.cap
            have hIl : ¬ ((I5 : Int) < (dl : Int)) := by omega
            have hIl2 : (dl : Int) ≤ (I5 : Int) := by omega
            have hIc : (I5 : Int) ≤ (c2 : Int) := by omega
            have hcI : (c2 : Int) ≤ 9223372036854775807 := by simp only [maxLen] at hc2m; omega
            clear hb hmr hdlv hfr hlt hI5 hdl'
            cases A2 with
            | none =>
              have hz : I5 = 0 ∧ c2 = 0 := by
                rcases hOw.2 with ⟨he, _⟩ | ⟨g', cap, cur, he, _⟩
                · injection he with _ e2 e3; exact ⟨e2, e3⟩
                · injection he with e1; cases e1
              obtain ⟨rfl, rfl⟩ := hz
              have hz2 : dl = 0 := by omega
              subst hz2
              have HQ2 := Lib.hid (And.intro hOw (And.intro hBs (And.intro hbk3 hbl3)))
              clear hOw hBs hbk3 hbl3
              go_wp2_with fail
              refine (clipb_c none 0 0 wr (Nat.le_refl _) (by simp [maxLen]) (fun _ => ⟨rfl, rfl⟩)).mono ?_
              rintro e w6 ⟨rfl, rfl⟩
              have f4 := HQ2.out.2.2.1.frozen 4
              have c4 : wr.cell? ⟨w.heap.size, 4, none⟩ = some (.slice none 0 0) := HQ2.out.2.2.1.cell 4
              go_wp2_with fail
              have hT4 : Turned (fun k => k = w.heap.size) wr (wr.setCell ⟨w.heap.size, 4, none⟩ (.slice none 0 0)) := Turned.setCell (S := fun k => k = w.heap.size) (Turned.refl _ wr) (p := ⟨w.heap.size, 4, none⟩) (fun _ => rfl) _
              have hBs4 : Bs 5 (wr.setCell ⟨w.heap.size, 4, none⟩ (.slice none 0 0)) none 0 0 (frames recs) := by
                have h1 := HQ2.out.2.1.turned hT4 (fun k e => by subst e; exact HQ2.out.2.2.1.not8 (by decide))
                exact ⟨h1.len, Nat.le_refl _, by simp only [maxLen]; omega, h1.row⟩
              have hbk4 := HQ2.out.2.2.1.set_ 4 (.slice none 0 0)
              refine (parse_c none 0 0 recs _ hBs4 (by omega) HX.out.2.2.2.2.2.2.1 HX.out.2.2.2.2.2.2.2.1).mono ?_
              rintro e w7 ⟨v, rfl, hrc, hb7⟩
              have hbel4 : Below w.heap.size w (wr.setCell ⟨w.heap.size, 4, none⟩ (.slice none 0 0)) := HQ2.out.2.2.2.setCell (p := ⟨w.heap.size, 4, none⟩) (Nat.le_refl _) _
              obtain ⟨xs, hxo, hxr⟩ := hrc
              obtain ⟨A3, c3, rfl, hfr3⟩ := own_form hxo
              have hbk7 := hbk4.below hb7 hbk4.lt
              have f5 := hbk7.frozen 5
              have c5 : w7.cell? ⟨w.heap.size, 5, none⟩ = some (.int .i64 0) := hbk7.cell 5
              have hrl : (recs.length : Int) ≤ 1000000 := by have := HX.out.2.2.2.2.2.2.2.1; omega
              have H7 := Lib.hid (And.intro hxo (And.intro hxr (And.intro hfr3 (And.intro hbk7 (And.intro (hbel4.trans (hb7.mono (by have := hbel4.size; omega))) (And.intro (hBs4.below hb7) (by have := HQ2.out.2.2.2.size; simpa [World.setCell] using this : w.heap.size ≤ (wr.setCell ⟨w.heap.size, 4, none⟩ (.slice none 0 0)).heap.size)))))))
              clear hT4 hBs4 hbk4 hxo hxr hfr3 hbk7 hb7 hbel4 c4 f4
              go_wp2_with fail
              go_ret3
              obtain ⟨hxo, hxr, hfr3, hbk7, hbe7, hbs7, hsz7⟩ := H7.out
              have hT : Turned (fun k => k = w.heap.size) w7 (w7.setCell ⟨w.heap.size, 5, none⟩ (.int .i64 (recs.length : Int))) := Turned.setCell (S := fun k => k = w.heap.size) (Turned.refl _ w7) (p := ⟨w.heap.size, 5, none⟩) (fun _ => rfl) _
              have h8 : ∀ k, k = w.heap.size → Not8 5 w7 k := fun k e => by subst e; exact hbk7.not8 (by decide)
              have hfin := hbe7.setCell (p := ⟨w.heap.size, 5, none⟩) (Nat.le_refl _) (.int .i64 (recs.length : Int))
              refine ⟨.slice A3 recs.length c3, { b := w.heap.size, frm := frm, room := room, seq := J.seq, A := none, c := 0, data := J.data, count := (recs.length : Int) }, rfl, ⟨xs, ?_, fun i s h => ?_⟩, HH.out.1.below hfin, ?_, hfin, Nat.le_refl _, HX.out.2.1.symm, HX.out.2.2.1.symm, rfl, rfl⟩
              · refine ownsRow_setCell_other (ownsRow_less hxo hsz7) ?_ _
                intro e
                have h1 : (wr.setCell ⟨w.heap.size, 4, none⟩ (.slice none 0 0)).heap.size ≤ w.heap.size := hfr3 _ e
                have h2 : w.heap.size < (wr.setCell ⟨w.heap.size, 4, none⟩ (.slice none 0 0)).heap.size := by
                  have := HQ2.out.2.2.1.lt
                  simpa [World.setCell] using this
                omega
              · obtain ⟨A, c, h1, h2⟩ := hxr i s h
                exact ⟨A, c, h1, h2.turned hT h8⟩
              · have hdr := HX.out.2.2.2.2.2.1
                have hdl2 := HX.out.2.2.2.2.2.2.2.2.1
                refine ⟨?_, ?_, HX.out.2.2.2.1, by show room ≤ _; omega, by show frm ≤ _; omega, HX.out.2.2.2.2.1⟩
                · have := hbk7.set_ 5 (.int .i64 (recs.length : Int))
                  have e : LogG.head { b := w.heap.size, frm := frm, room := room, seq := J.seq, A := none, c := 0, data := J.data, count := (recs.length : Int) } D.d = ((logHead0 D.d frm room J.seq).setIfInBounds 4 (.slice none 0 0)).setIfInBounds 5 (.int .i64 (recs.length : Int)) := by
                    simp [LogG.head, logHead0, ← hdl2]
                  rw [e]; exact this
                · show Bs _ _ none J.data.length 0 J.data
                  rw [← hdl2, hdr]
                  exact hbs7.turned hT h8
            | some ad =>
              have hnone : (some ad : Option Addr) = none → dl = 0 ∧ c2 = 0 := fun h => by cases h
              have HQ2 := Lib.hid (And.intro hOw (And.intro hBs (And.intro hbk3 hbl3)))
              clear hOw hBs hbk3 hbl3
              go_wp2_with fail
              refine (clipb_c (some ad) dl c2 wr (by omega) hc2m hnone).mono ?_
              rintro e w6 ⟨rfl, rfl⟩
              have f4 := HQ2.out.2.2.1.frozen 4
              have c4 : wr.cell? ⟨w.heap.size, 4, none⟩ = some (.slice none 0 0) := HQ2.out.2.2.1.cell 4
              go_wp2_with fail
              have hT4 : Turned (fun k => k = w.heap.size) wr (wr.setCell ⟨w.heap.size, 4, none⟩ (.slice (some ad) dl dl)) := Turned.setCell (S := fun k => k = w.heap.size) (Turned.refl _ wr) (p := ⟨w.heap.size, 4, none⟩) (fun _ => rfl) _
              have hBs4 : Bs 5 (wr.setCell ⟨w.heap.size, 4, none⟩ (.slice (some ad) dl dl)) (some ad) dl dl (frames recs) := by
                have h1 := HQ2.out.2.1.turned hT4 (fun k e => by subst e; exact HQ2.out.2.2.1.not8 (by decide))
                exact ⟨h1.len, Nat.le_refl _, by simp only [maxLen]; omega, h1.row⟩
              have hbk4 := HQ2.out.2.2.1.set_ 4 (.slice (some ad) dl dl)
              refine (parse_c (some ad) dl dl recs _ hBs4 (by omega) HX.out.2.2.2.2.2.2.1 HX.out.2.2.2.2.2.2.2.1).mono ?_
              rintro e w7 ⟨v, rfl, hrc, hb7⟩
              have hbel4 : Below w.heap.size w (wr.setCell ⟨w.heap.size, 4, none⟩ (.slice (some ad) dl dl)) := HQ2.out.2.2.2.setCell (p := ⟨w.heap.size, 4, none⟩) (Nat.le_refl _) _
              obtain ⟨xs, hxo, hxr⟩ := hrc
              obtain ⟨A3, c3, rfl, hfr3⟩ := own_form hxo
              have hbk7 := hbk4.below hb7 hbk4.lt
              have f5 := hbk7.frozen 5
              have c5 : w7.cell? ⟨w.heap.size, 5, none⟩ = some (.int .i64 0) := hbk7.cell 5
              have hrl : (recs.length : Int) ≤ 1000000 := by have := HX.out.2.2.2.2.2.2.2.1; omega
              have H7 := Lib.hid (And.intro hxo (And.intro hxr (And.intro hfr3 (And.intro hbk7 (And.intro (hbel4.trans (hb7.mono (by have := hbel4.size; omega))) (And.intro (hBs4.below hb7) (by have := HQ2.out.2.2.2.size; simpa [World.setCell] using this : w.heap.size ≤ (wr.setCell ⟨w.heap.size, 4, none⟩ (.slice (some ad) dl dl)).heap.size)))))))
              clear hT4 hBs4 hbk4 hxo hxr hfr3 hbk7 hb7 hbel4 c4 f4
              go_wp2_with fail
              go_ret3
              obtain ⟨hxo, hxr, hfr3, hbk7, hbe7, hbs7, hsz7⟩ := H7.out
              have hT : Turned (fun k => k = w.heap.size) w7 (w7.setCell ⟨w.heap.size, 5, none⟩ (.int .i64 (recs.length : Int))) := Turned.setCell (S := fun k => k = w.heap.size) (Turned.refl _ w7) (p := ⟨w.heap.size, 5, none⟩) (fun _ => rfl) _
              have h8 : ∀ k, k = w.heap.size → Not8 5 w7 k := fun k e => by subst e; exact hbk7.not8 (by decide)
              have hfin := hbe7.setCell (p := ⟨w.heap.size, 5, none⟩) (Nat.le_refl _) (.int .i64 (recs.length : Int))
              refine ⟨.slice A3 recs.length c3, { b := w.heap.size, frm := frm, room := room, seq := J.seq, A := some ad, c := dl, data := J.data, count := (recs.length : Int) }, rfl, ⟨xs, ?_, fun i s h => ?_⟩, HH.out.1.below hfin, ?_, hfin, Nat.le_refl _, HX.out.2.1.symm, HX.out.2.2.1.symm, rfl, rfl⟩
              · refine ownsRow_setCell_other (ownsRow_less hxo hsz7) ?_ _
                intro e
                have h1 : (wr.setCell ⟨w.heap.size, 4, none⟩ (.slice (some ad) dl dl)).heap.size ≤ w.heap.size := hfr3 _ e
                have h2 : w.heap.size < (wr.setCell ⟨w.heap.size, 4, none⟩ (.slice (some ad) dl dl)).heap.size := by
                  have := HQ2.out.2.2.1.lt
                  simpa [World.setCell] using this
                omega
              · obtain ⟨A, c, h1, h2⟩ := hxr i s h
                exact ⟨A, c, h1, h2.turned hT h8⟩
              · have hdr := HX.out.2.2.2.2.2.1
                have hdl2 := HX.out.2.2.2.2.2.2.2.2.1
                refine ⟨?_, ?_, HX.out.2.2.2.1, by show room ≤ _; omega, by show frm ≤ _; omega, HX.out.2.2.2.2.1⟩
                · have := hbk7.set_ 5 (.int .i64 (recs.length : Int))
                  have e : LogG.head { b := w.heap.size, frm := frm, room := room, seq := J.seq, A := some ad, c := dl, data := J.data, count := (recs.length : Int) } D.d = ((logHead0 D.d frm room J.seq).setIfInBounds 4 (.slice (some ad) dl dl)).setIfInBounds 5 (.int .i64 (recs.length : Int)) := by
                    simp [LogG.head, logHead0, ← hdl2]
                  rw [e]; exact this
                · show Bs _ _ (some ad) J.data.length dl J.data
                  rw [← hdl2, hdr]
                  exact hbs7.turned hT h8
end Go.Proofs.Ytliakkpmmmgmhaa
