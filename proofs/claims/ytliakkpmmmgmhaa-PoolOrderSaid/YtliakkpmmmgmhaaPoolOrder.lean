/- The walk of PoolOrder. -/
import Derived.Test.YtliakkpmmmgmhaaPoolTurn
namespace Go.Proofs.Ytliakkpmmmgmhaa
open Go.RowKit
/-- What stands at each round of the filling. -/
def FInv (w : World) (p k j : Nat) (wr : World) : Prop := ∃ G, PoolRep wr G ∧ G.p = p ∧ Fill G k j ∧ w.heap.size ≤ G.p ∧ w.heap.size ≤ G.fb ∧ w.heap.size ≤ G.mb ∧ Below w.heap.size w wr
/-- What stands behind the filling. -/
def OInv (w : World) (p ib k : Nat) (n next : Nat) (wr : World) : Prop :=
  ∃ G is C, PoolRep wr G ∧ G.p = p ∧ Ord G k is n next ∧ w.heap.size ≤ G.p ∧ w.heap.size ≤ G.fb ∧ w.heap.size ≤ G.mb ∧ w.heap.size ≤ ib ∧ Blk wr ib 30 C ∧ C.size = 22 ∧ (∀ i : Nat, i < 22 → C[i]? = some (.int .i64 (if is i then 1 else 0))) ∧ Below w.heap.size w wr
set_option maxRecDepth 100000 in
set_option maxHeartbeats 4000000 in
theorem poolOrder_walk (a : Int) (A : Option Addr) (n c : Nat) (z : Nat → Int) (w : World) (wa : (Lit.int .i64 a).wf = true) (r : RdI w A n z) :
    Calls Try.prog 3 #[.int .i64 a, .slice A n c] w fun e w' => e = .returned (.bool true) ∧ Below w.heap.size w w' := by
  have ba := bounds_i64 wa
  have HR := Lib.hid r
  clear wa r
  go_enter Try.func3, Try.ntmps3
  go_wp2_with fail
  refine (poolLives_c _).mono ?_
  rintro e w1 ⟨rfl, hb⟩
  have H1 := Lib.hid hb
  clear hb
  by_cases hn : 100 < n
  · have hn' : (100 : Int) < n := by omega
    go_wp2_with fail
    refine (poolLives_c _).mono ?_
    rintro e w2 ⟨rfl, hb2⟩
    have H2 := Lib.hid hb2
    clear hb2
    go_wp2
    go_ret
    exact ⟨rfl, H1.out.trans (H2.out.mono H1.out.size)⟩
  · have hn' : ¬ (100 : Int) < n := by omega
    go_wp2_with fail
    obtain ⟨k0, hk0, hk1⟩ := mod_u64 a 20 (by omega) (by omega)
    have hk : wrap64 (2 + wrap64 ((IntKind.u64.wrap a).tmod 20)) = ((2 + k0 : Nat) : Int) := by
      have h : wrap64 ((IntKind.u64.wrap a).tmod 20) = (k0 : Int) := hk0
      rw [h]; unfold wrap64; omega
    rw [hk]
    clear hk hk0
    obtain ⟨k, hkk⟩ : ∃ k, k = 2 + k0 := ⟨_, rfl⟩
    rw [← hkk]
    refine (new_c k w1 (by omega) (by omega)).mono ?_
    rintro e w2 ⟨p, fb, mb, cap, C, rfl, hP, hB, hp, hf, hm⟩
    have HM0 : Hid (FInv w p k 0 w2) := ⟨_, hP, rfl, ⟨by simp [emptyG], rfl, fun i f hf => by
      have := (List.mem_replicate.1 (List.mem_of_getElem? hf)).2
      subst this
      exact ⟨fun h => absurd h (by omega), fun _ => by decide⟩⟩, Nat.le_trans H1.out.size hp, Nat.le_trans H1.out.size hf, Nat.le_trans H1.out.size hm, H1.out.trans (hB.mono H1.out.size)⟩
    have hk21 : k ≤ 21 := by omega
    have hk1' : 2 ≤ k := by omega
    clear hP hB hp hf hm hkk hk1 H1
    go_wp2_with fail
    go_loopw [34] (fun i wr => ∃ j : Nat, j ≤ k ∧ i = .int .i64 j ∧ Hid (FInv w p k j wr)) (fun i _ => k - (intOf i).toNat)
    case atStart => exact ⟨0, Nat.zero_le _, rfl, HM0⟩
    case round =>
      clear HM0
      obtain ⟨j, hj, rfl, HM⟩ := hrel
      obtain ⟨G, hG, rfl, hF, hG1, hG2, hG3, hGB⟩ := HM.out
      by_cases hjk : j < k
      · have hput := put_fill G k j hjk (by omega) hF wr hG
        have HG := Lib.hid (And.intro hG1 (And.intro hG2 (And.intro hG3 hGB)))
        clear hG hF hG1 hG2 hG3 hGB HM
        go_wp2_with fail
        refine hput.mono ?_
        clear hput
        rintro e w3 ⟨gone, G', rfl, hP, ⟨e1, e2, e3⟩, hF, hT⟩
        have HB := Lib.hid (own_new HG.out.2.2.2 HG.out.1 HG.out.2.1 HG.out.2.2.1 hT)
        have HQ := Lib.hid (And.intro hP (And.intro hF (And.intro e1 (And.intro e2 e3))))
        clear hP e1 e2 e3 hF hT
        go_wp2_with fail
        go_roundw
        case rel => exact ⟨j + 1, by omega, by go_num, G', HQ.out.1, HQ.out.2.2.1, HQ.out.2.1, by rw [HQ.out.2.2.1]; exact HG.out.1, by rw [HQ.out.2.2.2.1]; exact HG.out.2.1, by rw [HQ.out.2.2.2.2]; exact HG.out.2.2.1, HB.out⟩
        case measure => simp [intOf]; omega
      · obtain rfl : j = k := by omega
        have hput := put_over G j hk1' (by omega) hF wr hG
        have HG := Lib.hid (And.intro hG1 (And.intro hG2 (And.intro hG3 hGB)))
        clear hG hF hG1 hG2 hG3 hGB HM
        go_wp2_with fail
        refine hput.mono ?_
        clear hput
        rintro e w3 ⟨rfl, G', hP, ⟨e1, e2, e3⟩, hO, hT⟩
        have HB := Lib.hid (own_new HG.out.2.2.2 HG.out.1 HG.out.2.1 HG.out.2.2.1 hT)
        have HQ := Lib.hid (And.intro hP (And.intro hO (And.intro e1 (And.intro e2 e3))))
        clear hP e1 e2 e3 hO hT
        go_wp2_with fail
        have HO0 : Hid (OInv w G.p w3.heap.size j 1 (j + 1) (w3.alloc (Obj.cells #[.int .i64 0, .int .i64 0, .int .i64 0, .int .i64 0, .int .i64 0, .int .i64 0, .int .i64 0, .int .i64 0, .int .i64 0, .int .i64 0, .int .i64 0, .int .i64 0, .int .i64 0, .int .i64 0, .int .i64 0, .int .i64 0, .int .i64 0, .int .i64 0, .int .i64 0, .int .i64 0, .int .i64 0, .int .i64 0] 30))) :=
          ⟨G', fun _ => false, _, HQ.out.1.alloc _, HQ.out.2.2.1, HQ.out.2.1, by rw [HQ.out.2.2.1]; exact HG.out.1, by rw [HQ.out.2.2.2.1]; exact HG.out.2.1, by rw [HQ.out.2.2.2.2]; exact HG.out.2.2.1, HB.out.size, Blk.new _ _ _, rfl,
            (by intro i hi; rcases i with _|_|_|_|_|_|_|_|_|_|_|_|_|_|_|_|_|_|_|_|_|_|i <;> first | rfl | omega), HB.out.alloc HB.out.size _⟩
        generalize hib : w3.heap.size = ib at *
        generalize hGp : G.p = p at *
        clear hib hGp HQ HG HB
        go_loopw [47] (fun q wr => ∃ q' : Nat, q' ≤ n ∧ q = .int .i64 q' ∧ Hid (OInv w p ib j 1 (j + 1) wr)) (fun q _ => n - (intOf q).toNat)
        case atStart => exact ⟨0, Nat.zero_le _, rfl, HO0⟩
        case round =>
          clear HO0
          obtain ⟨q, hq, rfl, HM⟩ := hrel
          by_cases hqn : q < n
          · obtain ⟨⟨b, o, hA, hc⟩, hz0, hz1⟩ := HR.out q hqn
            obtain ⟨G, is, C, hG, rfl, hO, hG1, hG2, hG3, hib, hC, hCs, hCi, hGB⟩ := HM.out
            have c0 : wr.cell? ⟨b, o + q, none⟩ = some (.int .i64 (z q)) := (hGB.cell (World.block_lt_of_cell? w _ hc)).trans hc
            generalize hzz : z q = zj at *
            subst hA
            obtain ⟨m, hm, hmj⟩ := mod_u64 zj j (by omega) (by omega)
            have hu : IntKind.u64.wrap (j : Int) = (j : Int) := by
              simp only [IntKind.wrap, IntKind.signed, IntKind.bits]
              simp
              omega
            have hj0 : ¬ (j : Int) = 0 := by omega
            have hget := get_ord G j m is (j + 1) hk1' hmj hO wr hG
            have HG := Lib.hid (And.intro hG1 (And.intro hG2 (And.intro hG3 (And.intro hGB (And.intro hib (And.intro hC (And.intro hCs (And.intro hCi hG))))))))
            have hm22 : (m : Int) < 22 := by omega
            clear hc hzz hG hO hG1 hG2 hG3 hib hC hCs hCi hGB HM
            go_wp2_with fail
            rw [hm]
            refine hget.mono ?_
            clear hget
            rintro e w4 ⟨v, G', rfl, hP, ⟨e1, e2, e3⟩, hO, hT⟩
            obtain ⟨hG1, hG2, hG3, hGB, hib, hC, hCs, hCi, hG⟩ := HG.out
            have hB4 := own_new hGB hG1 hG2 hG3 hT
            have hC4 := hC.turned hT (by
              rintro (e | e | e)
              · exact hG.bp.ne_ hC (by decide) e.symm
              · exact hG.bf.ne_ hC (by decide) e.symm
              · exact hG.bm.ne_blk hC e.symm)
            have f4 := hC4.frozen m
            have c4 : w4.cell? ⟨ib, m, none⟩ = some (.int .i64 (if is m then 1 else 0)) := (hC4.cell m).trans (hCi m (by omega))
            have hnew : OInv w G.p ib j 1 (j + 1) (w4.setCell ⟨ib, m, none⟩ (.int .i64 1)) := by
              have hne : ∀ k, G'.own k → ib ≠ k := by
                rintro k (e | e | e) h
                · rw [e, e1] at h; exact hG.bp.ne_ hC (by decide) h.symm
                · rw [e, e2] at h; exact hG.bf.ne_ hC (by decide) h.symm
                · rw [e, e3] at h; exact hG.bm.ne_blk hC h.symm
              have hTs : Turned (fun k => k = ib) w4 (w4.setCell ⟨ib, m, none⟩ (.int .i64 1)) := Turned.setCell (S := fun k => k = ib) (Turned.refl _ w4) (p := ⟨ib, m, none⟩) (fun _ => rfl) _
              refine ⟨G', _, _, hP.turned hTs (fun h => hne _ (Or.inl rfl) h.symm) (fun h => hne _ (Or.inr (Or.inl rfl)) h.symm) (fun h => hne _ (Or.inr (Or.inr rfl)) h.symm) (fun k e => by subst e; exact hC4.not8 (by decide)), e1, hO, by rw [e1]; exact hG1, by rw [e2]; exact hG2, by rw [e3]; exact hG3, hib, hC4.set_ m _, by simpa using hCs, ?_, hB4.setCell (p := ⟨ib, m, none⟩) hib _⟩
              intro i hi
              rw [Array.getElem?_setIfInBounds]
              by_cases e : m = i
              · subst e; simp [hCs]; omega
              · rw [if_neg e, hCi i hi]
                have : i ≠ m := fun h => e h.symm
                simp [this]
            have HN := Lib.hid hnew
            clear hG1 hG2 hG3 hGB hib hC hCs hCi hG hB4 hC4 hnew hP e1 e2 e3 hO hT HG
            go_wp2_with fail
            go_roundw
            case rel => exact ⟨q + 1, by omega, by go_num, HN.out⟩
            case measure => simp [intOf]; omega
          · go_wp2_with fail
            go_loopw [13, 14] (fun x q wr => ∃ (x' q' : Nat), 1 ≤ q' ∧ q' ≤ j ∧ x' ≤ j + q' ∧ x = .int .i64 x' ∧ q = .int .i64 q' ∧ Hid (OInv w p ib j q' x' wr)) (fun _ q _ => j - (intOf q).toNat)
            case atStart => exact ⟨j + 1, 1, by omega, by omega, by omega, by go_num, rfl, HM.out⟩
            case round =>
              clear HM
              obtain ⟨x, q, hq1, hq2, hx, rfl, rfl, HM⟩ := hrel
              obtain ⟨G, is, C, hG, rfl, hO, hG1, hG2, hG3, hib, hC, hCs, hCi, hGB⟩ := HM.out
              by_cases hqj : q < j
              · have c5 := (hC.cell q).trans (hCi q (by omega))
                have hq22 : (q : Int) < 22 := by omega
                cases hisq : is q with
                | true =>
                  rw [hisq] at c5
                  simp only [if_true] at c5
                  have hnew : OInv w G.p ib j (q + 1) x wr := ⟨G, is, C, hG, rfl, hO.skip hqj hisq, hG1, hG2, hG3, hib, hC, hCs, hCi, hGB⟩
                  have HN := Lib.hid hnew
                  clear hG hO hG1 hG2 hG3 hib hC hCs hCi hGB HM hnew
                  go_wp2_with fail
                  go_roundw
                  case rel => exact ⟨x, q + 1, by omega, by omega, by omega, rfl, by go_num, HN.out⟩
                  case measure => simp [intOf]; omega
                | false =>
                  rw [hisq] at c5
                  simp only [Bool.false_eq_true, if_false] at c5
                  have hput := put_ord G j q x is (by omega) hqj hisq hO wr hG
                  have HG := Lib.hid (And.intro hG1 (And.intro hG2 (And.intro hG3 (And.intro hGB (And.intro hib (And.intro hC (And.intro hCs (And.intro hCi hG))))))))
                  clear hG hO hG1 hG2 hG3 hib hC hCs hCi hGB HM
                  go_wp2_with fail
                  refine hput.mono ?_
                  clear hput
                  rintro e w4 ⟨rfl, G', hP, ⟨e1, e2, e3⟩, hO, hT⟩
                  have hnew : OInv w G.p ib j (q + 1) (x + 1) w4 := by
                    obtain ⟨hG1, hG2, hG3, hGB, hib, hC, hCs, hCi, hG⟩ := HG.out
                    exact ⟨G', is, C, hP, e1, hO, by rw [e1]; exact hG1, by rw [e2]; exact hG2, by rw [e3]; exact hG3, hib, hC.turned hT (by
                      rintro (e | e | e)
                      · exact hG.bp.ne_ hC (by decide) e.symm
                      · exact hG.bf.ne_ hC (by decide) e.symm
                      · exact hG.bm.ne_blk hC e.symm), hCs, hCi, own_new hGB hG1 hG2 hG3 hT⟩
                  have HN := Lib.hid hnew
                  clear hP e1 e2 e3 hO hT HG hnew
                  go_wp2_with fail
                  go_roundw
                  case rel => exact ⟨x + 1, q + 1, by omega, by omega, by omega, by go_num, by go_num, HN.out⟩
                  case measure => simp [intOf]; omega
              · have HB := Lib.hid hGB
                clear hG hO hG1 hG2 hG3 hib hC hCs hCi hGB HM
                go_wp2_with fail
                go_ret
                exact ⟨rfl, HB.out⟩
end Go.Proofs.Ytliakkpmmmgmhaa
