/- The walk of PoolBounds. -/
import Derived.Test.YtliakkpmmmgmhaaPoolMore
namespace Go.Proofs.Ytliakkpmmmgmhaa
open Go.RowKit
/-- What stands at each round. -/
def BInv (w : World) (p k : Nat) (wr : World) : Prop := ∃ G, PoolRep wr G ∧ G.p = p ∧ G.L.length = k ∧ w.heap.size ≤ G.p ∧ w.heap.size ≤ G.fb ∧ w.heap.size ≤ G.mb ∧ Below w.heap.size w wr
set_option maxRecDepth 100000 in
set_option maxHeartbeats 4000000 in
theorem poolBounds_walk (a : Int) (A : Option Addr) (n c : Nat) (z : Nat → Int) (w : World) (wa : (Lit.int .i64 a).wf = true) (r : RdI w A n z) :
    Calls Try.prog 4 #[.int .i64 a, .slice A n c] w fun e w' => e = .returned (.bool true) ∧ Below w.heap.size w w' := by
  have ba := bounds_i64 wa
  have HR := Lib.hid r
  clear wa r
  go_enter Try.func4, Try.ntmps4
  go_wp2_with fail
  refine (poolLives_c _).mono ?_
  rintro e w1 ⟨rfl, hb⟩
  have H1 := Lib.hid hb
  clear hb
  by_cases hn : 300 < n
  · have hn' : (300 : Int) < n := by omega
    go_wp2_with fail
    refine (poolLives_c _).mono ?_
    rintro e w2 ⟨rfl, hb2⟩
    have H2 := Lib.hid hb2
    clear hb2
    go_wp2
    go_ret
    exact ⟨rfl, H1.out.trans (H2.out.mono H1.out.size)⟩
  · have hn' : ¬ (300 : Int) < n := by omega
    go_wp2_with fail
    obtain ⟨k0, hk0, hk1⟩ := mod_u64 a 9 (by omega) (by omega)
    have hk : wrap64 (1 + wrap64 ((IntKind.u64.wrap a).tmod 9)) = ((1 + k0 : Nat) : Int) := by
      have h : wrap64 ((IntKind.u64.wrap a).tmod 9) = (k0 : Int) := hk0
      rw [h]; unfold wrap64; omega
    rw [hk]
    clear hk hk0
    obtain ⟨k, hkk⟩ : ∃ k, k = 1 + k0 := ⟨_, rfl⟩
    rw [← hkk]
    refine (new_c k w1 (by omega) (by omega)).mono ?_
    rintro e w2 ⟨p, fb, mb, cap, C, rfl, hP, hB, hp, hf, hm⟩
    have HM0 : Hid (BInv w p k w2) := ⟨_, hP, rfl, by simp [emptyG], Nat.le_trans H1.out.size hp, Nat.le_trans H1.out.size hf, Nat.le_trans H1.out.size hm, H1.out.trans (hB.mono H1.out.size)⟩
    have hk9 : k ≤ 9 := by omega
    have hk1' : 1 ≤ k := by omega
    clear hP hB hp hf hm hkk hk1 H1
    go_wp2_with fail
    go_loopw [39] (fun i wr => ∃ j : Nat, j ≤ n ∧ i = .int .i64 j ∧ Hid (BInv w p k wr)) (fun i _ => n - (intOf i).toNat)
    case atStart => exact ⟨0, Nat.zero_le _, rfl, HM0⟩
    case round =>
      clear HM0
      obtain ⟨j, hj, rfl, HM⟩ := hrel
      by_cases hjn : j < n
      · obtain ⟨⟨b, o, hA, hc⟩, hz0, hz1⟩ := HR.out j hjn
        obtain ⟨G, hG, hGp, hGL, hG1, hG2, hG3, hGB⟩ := HM.out
        have c0 : wr.cell? ⟨b, o + j, none⟩ = some (.int .i64 (z j)) := (hGB.cell (World.block_lt_of_cell? w _ hc)).trans hc
        generalize hzz : z j = zj at *
        subst hA
        have HG := Lib.hid (And.intro hG (And.intro hG1 (And.intro hG2 (And.intro hG3 hGB))))
        clear hc hzz hG hG1 hG2 hG3 hGB HM
        subst hGp
        go_wp2_with fail
        refine (pages_at G _ HG.out.1).mono ?_
        rintro e w3 ⟨b1, c1, rfl, hp1, hs1, hc1, hc1', hb1⟩
        rw [hGL] at hc1 ⊢
        have hn1 := PoolG.own_lt HG.out.1 hs1
        have HG3 := Lib.hid (And.intro (HG.out.1.below hb1) (And.intro hp1 (And.intro hb1 hn1)))
        clear hp1 hb1 hn1
        go_wp2_with fail
        refine (put_some G zj hz1 _ HG3.out.1).mono ?_
        rintro e w4 ⟨gone, G', rfl, hP4, e1, e2, e3, hl4, hT4, hgone⟩
        have hp4 := HG3.out.2.1.turned hT4 HG3.out.2.2.2
        have hB4 := own_new (HG.out.2.2.2.2.trans (HG3.out.2.2.1.mono HG.out.2.2.2.2.size)) HG.out.2.1 HG.out.2.2.1 HG.out.2.2.2.1 hT4
        have hGL' : G'.L.length = k := by rw [hl4, hGL]
        have HG4 := Lib.hid (And.intro hP4 (And.intro hp4 (And.intro hB4 hgone)))
        have HE := Lib.hid (And.intro e1 (And.intro e2 e3))
        clear hP4 hp4 hB4 hgone hT4 hl4
        have hpa := pages_at G' w4 HG4.out.1
        rw [e1] at hpa
        clear e1 e2 e3
        go_wp2_with fail
        refine hpa.mono ?_
        clear hpa
        rintro e w5 ⟨b2, c2, rfl, hp5, hs2, hc2, hc2', hb5⟩
        rw [hGL'] at hc2 ⊢
        have HG5 := Lib.hid (And.intro (HG4.out.1.below hb5) (And.intro hp5 (And.intro (HG4.out.2.1.below hb5) (HG4.out.2.2.1.trans (hb5.mono HG4.out.2.2.1.size)))))
        clear hp5 hb5
        go_wp2_with fail
        go_loop [13, 14, 62] (fun e t i => ∃ (ec i' : Nat), i' ≤ k ∧ ec ≤ i' ∧ e = .int .i64 ec ∧ t = .int .i64 0 ∧ i = .int .i64 i' ∧ Hid (0 < ec → ∃ f ∈ G.L, f.page < 0)) (fun _ _ i => k - (intOf i).toNat)
        case atStart => exact ⟨0, 0, by omega, by omega, rfl, rfl, rfl, fun h => absurd h (by omega)⟩
        case round =>
          obtain ⟨ec, i, hi, hec, rfl, rfl, rfl, hemp⟩ := hrel
          by_cases hik : i < k
          · obtain ⟨f, hf⟩ : ∃ f, G.L[i]? = some f := ⟨_, List.getElem?_eq_getElem (by omega)⟩
            obtain ⟨g, hg⟩ : ∃ g, G'.L[i]? = some g := ⟨_, List.getElem?_eq_getElem (by omega)⟩
            have d1 : w5.cell? ⟨b1, i, none⟩ = some (.int .i64 f.page) := HG5.out.2.2.1 i f hf
            have d2 : w5.cell? ⟨b2, i, none⟩ = some (.int .i64 g.page) := HG5.out.2.1 i g hg
            have HF := Lib.hid (And.intro hf hg)
            clear hf hg
            by_cases hneg : f.page < 0
            · go_wp2_with fail
              go_loop [14, 75] (fun t q => ∃ q' : Nat, q' ≤ i ∧ t = .int .i64 0 ∧ q = .int .i64 q') (fun _ q => i - (intOf q).toNat)
              case atStart => exact ⟨0, by omega, rfl, rfl⟩
              case round =>
                obtain ⟨q, hq, rfl, rfl⟩ := hrel
                by_cases hqi : q < i
                · obtain ⟨h, hh⟩ : ∃ h, G'.L[q]? = some h := ⟨_, List.getElem?_eq_getElem (by omega)⟩
                  have d3 : w5.cell? ⟨b2, q, none⟩ = some (.int .i64 h.page) := HG5.out.2.1 q h hh
                  by_cases heq : h.page = g.page
                  · have hn3 : ¬ 0 ≤ h.page := fun h0 => by
                      have := HG5.out.1.uniq q i h g hh HF.out.2 heq h0
                      omega
                    have hn4 : ¬ 0 ≤ g.page := by omega
                    clear hh
                    go_wp2_with fail
                    go_round
                    case rel => exact ⟨q + 1, by omega, rfl, by go_num⟩
                    case measure => simp [intOf]; omega
                  · clear hh
                    go_wp2_with fail
                    go_round
                    case rel => exact ⟨q + 1, by omega, rfl, by go_num⟩
                    case measure => simp [intOf]; omega
                · obtain rfl : q = i := by omega
                  go_wp2_with fail
                  go_round
                  case rel => exact ⟨ec + 1, q + 1, by omega, by omega, by go_num, rfl, by go_num, fun _ => ⟨f, List.mem_of_getElem? HF.out.1, hneg⟩⟩
                  case measure => simp [intOf]; omega
            · go_wp2_with fail
              go_loop [14, 75] (fun t q => ∃ q' : Nat, q' ≤ i ∧ t = .int .i64 0 ∧ q = .int .i64 q') (fun _ q => i - (intOf q).toNat)
              case atStart => exact ⟨0, by omega, rfl, rfl⟩
              case round =>
                obtain ⟨q, hq, rfl, rfl⟩ := hrel
                by_cases hqi : q < i
                · obtain ⟨h, hh⟩ : ∃ h, G'.L[q]? = some h := ⟨_, List.getElem?_eq_getElem (by omega)⟩
                  have d3 : w5.cell? ⟨b2, q, none⟩ = some (.int .i64 h.page) := HG5.out.2.1 q h hh
                  by_cases heq : h.page = g.page
                  · have hn3 : ¬ 0 ≤ h.page := fun h0 => by
                      have := HG5.out.1.uniq q i h g hh HF.out.2 heq h0
                      omega
                    have hn4 : ¬ 0 ≤ g.page := by omega
                    clear hh
                    go_wp2_with fail
                    go_round
                    case rel => exact ⟨q + 1, by omega, rfl, by go_num⟩
                    case measure => simp [intOf]; omega
                  · clear hh
                    go_wp2_with fail
                    go_round
                    case rel => exact ⟨q + 1, by omega, rfl, by go_num⟩
                    case measure => simp [intOf]; omega
                · obtain rfl : q = i := by omega
                  go_wp2_with fail
                  go_round
                  case rel => exact ⟨ec, q + 1, by omega, by omega, rfl, rfl, by go_num, hemp.out⟩
                  case measure => simp [intOf]; omega
          · obtain rfl : i = k := by omega
            by_cases hgn : 0 ≤ gone
            · have hz : ¬ 0 < (ec : Int) := by
                intro h
                obtain ⟨f, hf, hfp⟩ := hemp.out (by omega)
                have := HG4.out.2.2.2 hgn f hf
                omega
              go_wp2_with fail
              go_roundw
              case rel => exact ⟨j + 1, by omega, by go_num, G', HG5.out.1, HE.out.1, hGL', by rw [HE.out.1]; exact HG.out.2.1, by rw [HE.out.2.1]; exact HG.out.2.2.1, by rw [HE.out.2.2]; exact HG.out.2.2.2.1, HG5.out.2.2.2⟩
              case measure => simp [intOf]; omega
            · go_wp2_with fail
              go_roundw
              case rel => exact ⟨j + 1, by omega, by go_num, G', HG5.out.1, HE.out.1, hGL', by rw [HE.out.1]; exact HG.out.2.1, by rw [HE.out.2.1]; exact HG.out.2.2.1, by rw [HE.out.2.2]; exact HG.out.2.2.2.1, HG5.out.2.2.2⟩
              case measure => simp [intOf]; omega
      · go_wp2_with fail
        go_ret
        obtain ⟨G, hG, hGp, hGL, hG1, hG2, hG3, hGB⟩ := HM.out
        exact ⟨rfl, hGB⟩
end Go.Proofs.Ytliakkpmmmgmhaa
