/- Parts of the proof, put together: Pgm, Pgn, Pgo, Pgp, PagerMost. -/
import Derived.Test.YtliakkpmmmgmhaaMRowPagerMost7
import Derived.Deep.DeepCutAuto
import Derived.Test.YtliakkpmmmgmhaaMRowPagerMost2
/- A transaction is kept. -/
namespace Go.Proofs.Ytliakkpmmmgmhaa
open Go.RowKit

theorem most_room {B k ns : Nat} (h4 : 4 ≤ B) (h3 : B ≤ 300) (hk : (k : Int) ≤ mostM (B : Int)) (hn : ns ≤ 2 + 516 * k) : ([] : List UInt8).length + (ns + 14) ≤ (B - 2) * 512 := by
  unfold mostM at hk
  rw [if_neg (by omega)] at hk
  simp only [List.length_nil]
  omega
/-- The record so far. -/
def RecRel (w3 : World) (L : List (Nat × List UInt8)) (s i : Value) (wr : World) : Prop :=
  ∃ (k n c : Nat) (A : Option Addr), k ≤ L.length ∧ i = .int .i64 (k : Int) ∧ s = .slice A n c ∧ Hid (Bs 5 wr A n c (numB L.length ++ pagesB (L.take k))) ∧ Hid (Below w3.heap.size w3 wr)
theorem pgown_pb {G : PgG} {T : TxG} (h : G.tx = some T) : G.own T.pb := .inr (.inr (.inr (.inr (.inr (.inr (.inr ⟨T, h, .inr (.inr rfl)⟩))))))
set_option linter.unusedSimpArgs false in
set_option maxRecDepth 100000 in
set_option maxHeartbeats 8000000 in
theorem commit_c (G : PgG) (T : TxG) (w : World) (h : PgRep w G) (htx : G.tx = some T) (hs : G.J.seq < 4611686018427380000) : Calls Try.prog 23 #[.pointer (some ⟨G.P, 0, none⟩)] w (CommitDone w G T) := by
  have hbr := pbroken_c G w h
  have hT := h.tx T htx
  have c8 : w.cell? ⟨G.P, 8, none⟩ = some (.pointer (some ⟨T.b, 0, none⟩)) := (h.blk.cell 8).trans (by unfold PgG.head; rw [htx]; rfl)
  obtain ⟨ow, how⟩ : ∃ ow, ow = T.own := ⟨_, rfl⟩
  have t3 : w.cell? ⟨T.b, 3, none⟩ = some (.bool ow) := by rw [how]; exact hT.blk.cell 3
  have HO := Lib.hid how
  have HH := Lib.hid (And.intro h (And.intro htx (And.intro hs hT)))
  clear h htx hs hT how
  go_enter Try.func23, Try.ntmps23
  go_wp2_with fail
  refine hbr.mono ?_
  rintro e wx ⟨rfl, rfl⟩
  clear hbr
  go_upto_if 29 with fail
  go_cut [] (fun wc => SealRel w G T wc)
  case first =>
    -- DONE>
    cases ow with
    | false =>
      go_wp2_with fail
      go_meet
      rw [SealRel, sealed_no HO.out.symm]
      exact ⟨Lib.hid (by rw [← HH.out.2.1]; exact HH.out.1), Lib.hid (Turned.refl _ _)⟩
    | true =>
      have hT := HH.out.2.2.2
      have e0 : w.drew.cell? ⟨T.b, 0, none⟩ = some (.slice (some ⟨T.M.ub, 0, none⟩) T.M.used.length T.M.uc) := hT.blk.cell 0
      have e1 : w.drew.cell? ⟨T.b, 1, none⟩ = some (.slice T.M.rA T.M.root.length T.M.rc) := hT.blk.cell 1
      have e2 : w.drew.cell? ⟨T.b, 2, none⟩ = some (.map (some T.pb)) := hT.blk.cell 2
      have hS0 : w.drew.cell? ⟨T.b, 0, none⟩ = some (.slice (some ⟨T.M.ub, 0, none⟩) T.M.used.length T.M.uc) ∧ w.drew.cell? ⟨T.b, 1, none⟩ = some (.slice T.M.rA T.M.root.length T.M.rc) ∧ w.drew.cell? ⟨T.b, 2, none⟩ = some (.map (some T.pb)) := ⟨e0, e1, e2⟩
      have hMd : MetaRep w.drew T.M := hT.mrep.below (Turned.below (Turned.refl _ w).drew)
      have hen := encode_c T.M.ub T.M.uc T.M.used T.M.rA T.M.rc T.M.root w.drew hMd.used (by rw [(HH.out.1.txul T HH.out.2.1).1]; have := HH.out.1.n1600; omega) hMd.root hMd.rl
      have HEn := Lib.hid hen
      clear hT hMd hen e0 e1 e2
      go_wp2_with fail
      go_region_held (fun W => W.cell? ⟨T.b, 0, none⟩ = some (.slice (some ⟨T.M.ub, 0, none⟩) T.M.used.length T.M.uc) ∧ W.cell? ⟨T.b, 1, none⟩ = some (.slice T.M.rA T.M.root.length T.M.rc) ∧ W.cell? ⟨T.b, 2, none⟩ = some (.map (some T.pb))) (first | assumption)
        (first
          | (go_at_call 43
             (refine HEn.out.mono ?_)
             intro e w4 hg4
             have hel : (encB T.M.used T.M.root).length = 512 := encB_len T.M.used T.M.root (by
               have hrl := HH.out.2.2.2.mrep.rl
               have := numB_ten (n := T.M.root.length) (by omega)
               rw [List.length_append]; omega)
             obtain ⟨A4, c4, rfl, hB4, hb4⟩ := hg4.page hel
             have hb24 : Below w.heap.size w w4 := ⟨hb4.os, hb4.tape, hb4.output, hb4.size, hb4.block⟩
             have hr4 := HH.out.1.below hb24
             have hT4 := hr4.tx T HH.out.2.1
             obtain ⟨w5, hrun, hm5, ht5, hs5⟩ := hT4.map.update 0 hB4
             have hS4 : w4.cell? ⟨T.b, 0, none⟩ = some (.slice (some ⟨T.M.ub, 0, none⟩) T.M.used.length T.M.uc) ∧ w4.cell? ⟨T.b, 1, none⟩ = some (.slice T.M.rA T.M.root.length T.M.rc) ∧ w4.cell? ⟨T.b, 2, none⟩ = some (.map (some T.pb)) := ⟨hT4.blk.cell 0, hT4.blk.cell 1, hT4.blk.cell 2⟩
             have hT5 := hT4.blk.turned ht5 (fun (e : T.b = T.pb) => hT4.map.ne_blk hT4.blk e.symm)
             have hS5 : w5.cell? ⟨T.b, 0, none⟩ = some (.slice (some ⟨T.M.ub, 0, none⟩) T.M.used.length T.M.uc) ∧ w5.cell? ⟨T.b, 1, none⟩ = some (.slice T.M.rA T.M.root.length T.M.rc) ∧ w5.cell? ⟨T.b, 2, none⟩ = some (.map (some T.pb)) := ⟨hT5.cell 0, hT5.cell 1, hT5.cell 2⟩
             have H4 := Lib.hid (And.intro hb24 (And.intro hr4 (And.intro hT4 (And.intro hm5 (And.intro ht5 (And.intro hT5 hel))))))
             clear hg4 hB4 hb4 hb24 hr4 hT4 hm5 ht5 hs5 hT5 hel))
      clear hS0 hS4 hS5 hrun
      go_wp2_with fail
      go_meet
      obtain ⟨hb4, hr4, hT4, hm5, ht5, hT5, hel⟩ := H4.out
      obtain ⟨Cu, hCu⟩ := hT4.mrep.ub_blk
      have h8 : ∀ x, x = T.pb → Not8 5 w4 x := fun x e => by subst e; exact hT4.map.not8
      rw [SealRel, sealed_yes HO.out.symm]
      refine ⟨Lib.hid (hr4.txStep HH.out.2.1 (ht5.more (fun _ _ e => .inr (.inr e))) rfl rfl rfl rfl ⟨hT5, hT4.mrep.turned ht5 (fun (e : T.M.ub = T.pb) => hT4.map.ne_blk hCu e.symm) h8, hm5⟩ ?_), Lib.hid ((Turned.of_below (S := fun x => x = T.pb) hb4).trans ht5 (fun _ _ e => e))⟩
      intro n' l' e
      have e' : pput T.f 0 (encB T.M.used T.M.root) n' = some l' := e
      unfold pput at e'
      split at e'
      · rename_i he; injection e' with e'; subst e'; subst he
        exact ⟨by omega, by omega, hel⟩
      · exact (hr4.txul T HH.out.2.1).2.2.2.2 n' l' e'
    -- <DONE
  case rest =>
    obtain ⟨HR, HTn⟩ := hcut
    obtain ⟨T', hTe⟩ : ∃ T', T' = T.sealed := ⟨_, rfl⟩
    rw [← hTe] at HR
    obtain ⟨eb, eM, epb, _⟩ := sealed_b T
    rw [← hTe] at eb eM epb
    have hT' := HR.out.tx T' rfl
    obtain ⟨vm, hvm, hks⟩ := hT'.map.imap
    obtain ⟨n0, hn0⟩ : ∃ n0, n0 = vm.length := ⟨_, rfl⟩
    have hcnt := hvm.count (P := Try.prog) (K := 3) (E := 31) Try.underlying82 3
    have hcntd := (hvm.turned (S := fun _ => False) (Turned.refl _ wc).drew id).count (P := Try.prog) (K := 3) (E := 31) Try.underlying82 3
    rw [← hn0] at hcnt hcntd
    rw [epb] at hcnt hcntd
    have q2 : wc.cell? ⟨T.b, 2, none⟩ = some (.map (some T.pb)) := by rw [← eb, ← epb]; exact hT'.blk.cell 2
    have q3 : wc.cell? ⟨G.P, 3, none⟩ = some (.int .i64 (G.B : Int)) := HR.out.blk.cell 3
    have q8 : wc.cell? ⟨G.P, 8, none⟩ = some (.pointer (some ⟨T.b, 0, none⟩)) := by rw [← eb]; exact HR.out.blk.cell 8
    have qf8 : wc.frozen? ⟨G.P, 8, none⟩ = false := HR.out.blk.frozen 8
    have hn16 : (n0 : Int) ≤ 1601 := by
      have h1 := hT'.map.few (HR.out.txul T' rfl).2.2.2.2
      rw [hks, List.length_map] at h1
      have h2 := HR.out.n1600
      have h3 : vm.length ≤ G.n + 1 := h1
      have h4 : G.n ≤ 1600 := h2
      omega
    have HX := Lib.hid (And.intro hTe (And.intro eb (And.intro eM (And.intro epb (And.intro hvm (And.intro hks hn0))))))
    clear hTe eb eM epb hT' hvm hks hn0 c8 t3
    by_cases hz : n0 = 0
    ·
      -- DONE>
      subst hz
      clear hcntd
      go_wp2_with fail
      go_ret
      have hks0 : T.sealed.ks = [] := by
        rw [← HX.out.1, HX.out.2.2.2.2.2.1]
        have h0 := HX.out.2.2.2.2.2.2
        rw [List.eq_nil_of_length_eq_zero h0.symm]; rfl
      obtain ⟨t1, t2⟩ := tx_off HR.out (.inl rfl)
      exact .inl ⟨hks0, rfl, t1, ((HTn.out.more (S' := G.own) (fun g _ e => by subst e; exact pgown_pb HH.out.2.1)).trans t2 (fun g _ e => by subst e; exact .inl rfl))⟩
      -- <DONE
    · have hz1 : ((n0 : Int) == 0) = false := by simpa using hz
      obtain ⟨mm, hmm⟩ : ∃ mm, mm = mostM (G.B : Int) := ⟨_, rfl⟩
      have hmost := most_c (G.B : Int) wc.drew
      rw [← hmm] at hmost
      have HM := Lib.hid hmm
      clear hmm
      have hS0 : wc.drew.cell? ⟨T.b, 2, none⟩ = some (.map (some T.pb)) ∧ wc.drew.cell? ⟨G.P, 3, none⟩ = some (.int .i64 (G.B : Int)) := ⟨q2, q3⟩
      by_cases hmn : mm < (n0 : Int)
      ·
        -- DONE>
        have d1 : decide (mm < (n0 : Int)) = true := decide_eq_true hmn
        go_wp2_with fail
        go_region_held (fun W => W.cell? ⟨T.b, 2, none⟩ = some (.map (some T.pb)) ∧ W.cell? ⟨G.P, 3, none⟩ = some (.int .i64 (G.B : Int))) (first | assumption)
          (first
            | (go_at_call 17
               (refine hmost.mono ?_)
               rintro e w4 ⟨rfl, rfl⟩))
        all_goals (
          go_wp2_with fail
          go_ret
          have hks0 : T.sealed.ks.length = n0 := by rw [← HX.out.1, HX.out.2.2.2.2.2.1, List.length_map]; exact HX.out.2.2.2.2.2.2.symm
          obtain ⟨t1, t2⟩ := tx_off HR.out (.inr rfl)
          exact .inr (.inl ⟨fun e => by rw [e] at hks0; exact hz hks0.symm, by rw [hks0, ← HM.out]; exact hmn, rfl, t1, ((HTn.out.more (S' := G.own) (fun g _ e => by subst e; exact pgown_pb HH.out.2.1)).trans t2 (fun g _ e => by subst e; exact .inl rfl))⟩))
        -- <DONE
      · have d1 : decide (mm < (n0 : Int)) = false := decide_eq_false hmn
        go_wp2_with fail
        go_region_held (fun W => W.cell? ⟨T.b, 2, none⟩ = some (.map (some T.pb)) ∧ W.cell? ⟨G.P, 3, none⟩ = some (.int .i64 (G.B : Int))) (first | assumption)
          (first
            | (go_at_call 17
               (refine hmost.mono ?_)
               rintro e w4 ⟨rfl, rfl⟩))
        obtain ⟨wd, hwd⟩ : ∃ x, x = wc.drew := ⟨_, rfl⟩
        rw [← hwd]
        have hRd := HR.out.below (Turned.below (Turned.refl _ wc).drew)
        rw [← hwd] at hRd
        have hTd := hRd.tx T' rfl
        obtain ⟨vm1, w1, hrun, hks1, hR1, hb1, hs1⟩ := hTd.map.ranged
        obtain ⟨r, hr⟩ : ∃ r, r = wd.heap.size := ⟨_, rfl⟩
        rw [HX.out.2.2.2.1] at hrun hR1
        rw [← hr] at hrun hR1
        have p2 : wd.cell? ⟨T.b, 2, none⟩ = some (.map (some T.pb)) := by rw [← HX.out.2.1, ← HX.out.2.2.2.1]; exact hTd.blk.cell 2
        have hvl : vm1.length = n0 := by
          have h1 := HX.out.2.2.2.2.2.1
          rw [hks1] at h1
          have := congrArg List.length h1
          rw [List.length_map, List.length_map, ← HX.out.2.2.2.2.2.2] at this
          exact this
        have hvl2 : (vm1.length : Int) ≤ 1601 := by omega
        have hpb := hTd.map.lt
        rw [HX.out.2.2.2.1] at hpb
        have H1 := Lib.hid (And.intro hR1 (And.intro hb1 (And.intro hs1 (And.intro hr (And.intro hpb (And.intro hks1 hvl))))))
        have HRd := Lib.hid hRd
        have HWd := Lib.hid hwd
        have HI := Lib.hid (info_parts infoI)
        have HM2 := Lib.hid (And.intro hz hmn)
        clear hRd hTd hks1 hR1 hb1 hs1 hr hvl hpb hwd hS0 hcnt hcntd q2 q3 q8 qf8 hmost d1 hz hz1 hmn
        go_wp2_with fail
        go_loopw [4] (fun v wr => CollRel wd.heap.size w1.heap.size wd T.pb r vm1 v wr) (fun v _ => vm1.length - lenV v)
        case atStart => exact ⟨[], Lib.hid (World.ownsRow_nil _ _ _ _), Lib.hid H1.out.1, Lib.hid H1.out.2.1, Lib.hid (Nat.le_refl _), rfl⟩
        case round =>
          obtain ⟨xs, HO, HR1, HW, HB, hlv⟩ := hrel
          obtain ⟨A, c, rfl, hfresh⟩ := own_form HO.out
          have hx16 := HR1.out.le
          obtain ⟨u, hu⟩ : ∃ u, u = xs.length := ⟨_, rfl⟩
          have hu2 : u ≤ 1601 := by omega
          rcases HR1.out.next (P := Try.prog) 0 with ⟨hperm, hnx⟩ | ⟨n, v, w2, hget, hnin, hnx, hR2, ht2, hs2, hent⟩
          · have hso := sort_c w1.heap.size A xs.length c xs wr HO.out (by omega)
            rw [← hu] at hso ⊢
            have hY := Lib.hid (And.intro hperm (And.intro hlv (And.intro hfresh hu)))
            clear hperm hlv hfresh hx16 hvl2 hu
            go_wp2_with fail
            refine hso.mono ?_
            clear hso
            rintro e w3 ⟨rfl, hown3, hgr3⟩
            obtain ⟨hperm, _, hfresh, hu⟩ := hY.out
            have hun : u = n0 := by rw [hu, hperm.length_eq, List.length_map]; exact H1.out.2.2.2.2.2.2
            subst hun
            have hzs : sortI xs = sortI T'.ks := by rw [H1.out.2.2.2.2.2.1]; exact sortI_of_perm hperm
            rw [hzs] at hown3
            have hbel3 : Below wd.heap.size wd w3 := (HW.out).grown hgr3 (by have := HW.out.size; omega) (fun g e => by have := hfresh g (by rw [← hu]; exact e); have := H1.out.2.1.size; omega)
            have hzl : (sortI T'.ks).length = u := by rw [← hzs, sortI_len, hu]
            have hR3 := HRd.out.below hbel3
            have hrd := Rd.of_own hown3
            have hA : ∀ g o, A = some ⟨g, o, none⟩ → w1.heap.size ≤ g := fun g o e => hfresh g (by rw [e]; rfl)
            obtain ⟨zs, hz⟩ : ∃ zs, zs = sortI T'.ks := ⟨_, rfl⟩
            rw [← hz] at hrd hzl
            have H3 := Lib.hid (And.intro hrd (And.intro hbel3 (And.intro hzl (And.intro hR3 (And.intro hA hz)))))
            clear hperm hfresh hu hzs hown3 hgr3 hbel3 hzl hR3 hrd hA hz p2
            have hu3 : (u : Int) ≤ 1601 := by omega
            have huw : IntKind.u64.wrap (u : Int) = (u : Int) := u64_small (by omega) (by omega)
            have hnum := num_c u (by omega) w3
            go_wp2_with fail
            refine hnum.mono ?_
            clear hnum
            rintro e w4 ⟨A4, c4, rfl, ho4, hb4⟩
            have H4 := Lib.hid (And.intro ho4 hb4)
            clear ho4 hb4 huw
            go_wp2_with fail
            have hTw := H3.out.2.2.2.1.tx T' rfl
            obtain ⟨tm, htm, _⟩ := hTw.map.imap
            have hTm := hTw.map
            have hTk := hTw.blk
            rw [HX.out.2.2.2.1] at htm hTm
            rw [HX.out.2.1] at hTk
            have hks16 := (H3.out.2.2.2.1.txul T' rfl).2.2.2.2
            have hn1600 : G.n ≤ 1600 := H3.out.2.2.2.1.n1600
            obtain ⟨L, hL⟩ : ∃ L, L = recL T'.f zs := ⟨_, rfl⟩
            have hLl : L.length = u := by rw [hL]; unfold recL; rw [List.length_map]; exact H3.out.2.2.1
            have hzk : ∀ k ∈ zs, ∃ (q : Nat) (l : List UInt8), k = (q : Int) ∧ T'.f (q : Int) = some l ∧ q ≤ G.n ∧ l.length = 512 := by
              intro k hk
              rw [H3.out.2.2.2.2.2] at hk
              obtain ⟨l, hl⟩ := Option.isSome_iff_exists.1 ((hTm.mem k).1 ((sortI_perm T'.ks).mem_iff.1 hk))
              obtain ⟨h1, h2, h3⟩ := hks16 k l hl
              have h2' : k ≤ (G.n : Int) := h2
              exact ⟨k.toNat, l, by omega, by rw [show ((k.toNat : Nat) : Int) = k by omega]; exact hl, by omega, h3⟩
            have hLok : ∀ x ∈ L, x.1 ≤ G.n ∧ x.2.length = 512 := by
              intro x hx
              rw [hL] at hx
              obtain ⟨k, hk, rfl⟩ := List.mem_map.1 hx
              obtain ⟨q, l, rfl, h1, h2, h3⟩ := hzk k hk
              exact ⟨by show (q : Int).toNat ≤ _; rw [Int.toNat_natCast]; exact h2, by show ((T'.f q).getD []).length = _; rw [h1]; exact h3⟩
            have HL := Lib.hid (And.intro hL (And.intro hLl (And.intro hLok (And.intro hzk (And.intro hn1600 (And.intro hTm (And.intro hTk htm)))))))
            clear hTw htm hTm hTk hks16 hn1600 hL hLl hzk hLok
            go_loopw [6, 83] (fun s i wr => RecRel w3 L s i wr) (fun _ i _ => u - (intOf i).toNat)
            case atStart => exact ⟨0, _, c4, A4, Nat.zero_le _, rfl, rfl, Lib.hid (by rw [HL.out.2.1]; show Bs _ _ _ _ _ (numB u ++ []); rw [List.append_nil]; exact Bs.of_own H4.out.1), Lib.hid H4.out.2⟩
            case round =>
              obtain ⟨k, ns, cs, As, hk, rfl, rfl, HS, HWr⟩ := hrel
              by_cases hku : k < u
              ·
                -- DONE>
                obtain ⟨n, hn⟩ : ∃ n, zs[k]? = some n := ⟨_, List.getElem?_eq_getElem (by have := H3.out.2.2.1; omega)⟩
                obtain ⟨q, l, rfl, hfq, hqn, hl5⟩ := HL.out.2.2.2.1 n (List.mem_of_getElem? hn)
                obtain ⟨tm2, Al, cl, hm3, hg3, hBl3⟩ := HL.out.2.2.2.2.2.1.yes hfq
                have lk : ∀ W, IMap W T.pb tm2 → (Instr.lookup 82 (.map (some T.pb)) (.int .i64 (q : Int)) false).run Try.prog W = .ok (.slice Al 512 cl) W := fun W h => h.lookup1_yes Try.underlying82 Try.underlying3 hg3
                have cv : ∀ W, Bs 5 W Al 512 cl l → (convert 31 9 (.slice Al 512 cl)).run Try.prog W = .ok (.string ⟨l.toArray⟩) W := fun W h => h.toString Try.underlying31 Try.underlying5 Try.underlying9
                have hSb : ∀ W W' : World, (W.cell? ⟨T.b, 2, none⟩ = some (.map (some T.pb)) ∧ IMap W T.pb tm2 ∧ Bs 5 W Al 512 cl l ∧ Bs 5 W As ns cs (numB L.length ++ pagesB (L.take k))) → Below W.heap.size W W' → (W'.cell? ⟨T.b, 2, none⟩ = some (.map (some T.pb)) ∧ IMap W' T.pb tm2 ∧ Bs 5 W' Al 512 cl l ∧ Bs 5 W' As ns cs (numB L.length ++ pagesB (L.take k))) :=
                  fun W W' h hb => ⟨(hb.cell (World.block_lt_of_cell? _ _ h.1)).trans h.1, h.2.1.turned (S := fun _ => False) (Turned.of_below hb) id, h.2.2.1.below hb, h.2.2.2.below hb⟩
                have hz : (ints zs)[k]? = some (.int .i64 (q : Int)) := by unfold ints; rw [List.getElem?_map, hn]; rfl
                have hrw := H3.out.1.below HWr.out
                obtain ⟨g, o, rfl, hcell⟩ := hrw.cell hz
                have hc3 : w3.cell? ⟨T.b, 2, none⟩ = some (.map (some T.pb)) := (HL.out.2.2.2.2.2.2.1.cell 2).trans (by rw [← HX.out.2.2.2.1]; rfl)
                have hS0 : (wr.drew.cell? ⟨T.b, 2, none⟩ = some (.map (some T.pb)) ∧ IMap wr.drew T.pb tm2 ∧ Bs 5 wr.drew Al 512 cl l ∧ Bs 5 wr.drew As ns cs (numB L.length ++ pagesB (L.take k))) := by
                  have hb : Below w3.heap.size w3 wr.drew := HWr.out.trans ((Turned.below (Turned.refl _ wr).drew).mono HWr.out.size)
                  exact ⟨(hb.cell (World.block_lt_of_cell? _ _ hc3)).trans hc3, hm3.turned (S := fun _ => False) (Turned.of_below hb) id, hBl3.below hb, HS.out.drew⟩
                have hqw : IntKind.u64.wrap (q : Int) = (q : Int) := u64_small (by omega) (by have := HL.out.2.2.2.2.1; omega)
                have hxk : L[k]? = some (q, l) := by
                  rw [HL.out.1]
                  unfold recL
                  rw [List.getElem?_map, hn]
                  show some ((q : Int).toNat, (T'.f (q : Int)).getD []) = _
                  rw [hfq, Int.toNat_natCast]; rfl
                have hsz : (numB L.length ++ pagesB (L.take k)).length + (numB q).length + (numB l.length ++ l).length ≤ 1000000 := by
                  have h1 := pagesB_516 (n := G.n) (L.take k) HL.out.2.2.2.2.1 (fun x hx => HL.out.2.2.1 x (List.mem_of_mem_take hx))
                  have h2 := num2 (n := L.length) (by have := HL.out.2.1; omega)
                  have h3 := num2 (n := q) (by have := HL.out.2.2.2.2.1; omega)
                  have h4 := num2 (n := l.length) (by omega)
                  rw [List.length_take] at h1
                  simp only [List.length_append]
                  have := HL.out.2.1
                  omega
                have hnumq := num_b q (by have := HL.out.2.2.2.2.1; omega)
                have htextl := text_b l (by omega)
                have HQ := Lib.hid (And.intro hxk (And.intro hsz (And.intro hl5 (And.intro hnumq htextl))))
                have hk0 : (0 : Int) ≤ (k : Int) := by omega
                have hk1 : (k : Int) < (u : Int) := by omega
                clear hn hfq hqn hl5 hm3 hg3 hBl3 hz hrw hc3 hxk hsz hnumq htextl
                go_wp2_with fail
                go_region_held (fun W => W.cell? ⟨T.b, 2, none⟩ = some (.map (some T.pb)) ∧ IMap W T.pb tm2 ∧ Bs 5 W Al 512 cl l ∧ Bs 5 W As ns cs (numB L.length ++ pagesB (L.take k))) (first | assumption | exact hSb _ _ (by assumption) ((Below.refl _ _).alloc (Nat.le_refl _) _))
                  (first
                    | (go_at_call 45
                       (refine (HQ.out.2.2.2.1 _).mono ?_)
                       rintro e w5 ⟨A5, n5, c5, rfl, hB5, hb5⟩
                       have hS5 := hSb _ _ (by assumption) hb5
                       have H5 := Lib.hid (And.intro hB5 (And.intro hb5 hS5.2.2.2))
                       clear hB5 hb5)
                    | (go_at_call 47
                       (refine (HQ.out.2.2.2.2 _).mono ?_)
                       rintro e w6 ⟨A6, n6, c6, rfl, hB6, hb6⟩
                       have hS6 := hSb _ _ (by assumption) hb6
                       have H6 := Lib.hid (And.intro hB6 (And.intro hb6 hS6.2.2.2))
                       clear hB6 hb6)
                    | (go_at_call 46
                       (refine (concat3 _ _ (Blk.new _ _ _) (l1 := numB L.length ++ pagesB (L.take k)) (l2 := numB q) (l3 := numB l.length ++ l) (by first | exact H6.out.2.2.alloc _ | exact H5.out.2.2.alloc _) (by first | exact (H5.out.1.below H6.out.2.1).alloc _ | exact H5.out.1.alloc _) (by first | exact (H6.out.1.below H5.out.2.1).alloc _ | exact H6.out.1.alloc _) HQ.out.2.1).mono ?_)
                       rintro e w7 ⟨A7, n7, c7, rfl, hB7, hb7⟩
                       have hS7 := hSb _ _ (hSb _ _ (by first | exact hS6 | exact hS5) ((Below.refl _ _).alloc (Nat.le_refl _) _)) hb7
                       have H7 := Lib.hid (And.intro hB7 hb7)
                       clear hB7 hb7))
                all_goals (
                  clear hS0 hS5 hS6 hS7 hSb lk cv hqw
                  go_wp2_with fail
                  refine ⟨⟨k + 1, n7, c7, A7, by have := HL.out.2.1; omega, by go_num, rfl, Lib.hid ?_, Lib.hid ?_⟩, by simp [intOf]; omega⟩
                  · rw [take_snoc' HQ.out.1, pagesB_snoc, ← List.append_assoc]
                    exact H7.out.1
                  · have b1 : Below w3.heap.size w3 wr.drew := HWr.out.trans ((Turned.below (Turned.refl _ wr).drew).mono HWr.out.size)
                    have b2 := b1.trans (H5.out.2.1.mono b1.size)
                    have b3 := b2.trans (H6.out.2.1.mono b2.size)
                    have b4 := b3.alloc b3.size (.cells #[Value.slice As ns cs, Value.slice A5 n5 c5, Value.slice A6 n6 c6] 31)
                    exact b4.trans (H7.out.2.mono b4.size))
                -- <DONE
              · obtain rfl : k = u := by have := HL.out.2.1; omega
                have hR4 := H3.out.2.2.2.1.below HWr.out
                have hSB : Bs 5 wr As ns cs (recB L) := by
                  have := HS.out
                  rw [← HL.out.2.1, List.take_length] at this
                  exact this
                have hns : ns ≤ 2 + 516 * k := by
                  have h0 := hSB.len
                  have h1 := pagesB_516 (n := G.n) L HL.out.2.2.2.2.1 HL.out.2.2.1
                  have h2 := num2 (n := L.length) (by have := HL.out.2.1; omega)
                  rw [← h0]
                  unfold recB
                  rw [List.length_append]
                  have := HL.out.2.1
                  omega
                have hns2 : (ns : Int) ≤ 900000 := by omega
                have p1 : wr.cell? ⟨G.P, 1, none⟩ = some (.pointer (some ⟨G.J.b, 0, none⟩)) := hR4.blk.cell 1
                obtain ⟨rm, hrm⟩ : ∃ rm, rm = G.J.room - G.J.data.length := ⟨_, rfl⟩
                have hroom := lroom_c G.D.d G.J wr hR4.log
                rw [← hrm] at hroom
                have hrm2 : (rm : Int) ≤ 200000 := by
                  have h1 : G.J.room = (G.B - 2) * 512 := hR4.jroom
                  have h2 : G.B ≤ 300 := hR4.B300
                  omega
                have H5 := Lib.hid (And.intro hR4 (And.intro hSB (And.intro hns hrm)))
                clear hR4 hSB hns hrm
                go_upto_if 110 with (first
                  | (go_at_call 48
                     (refine hroom.mono ?_)
                     rintro e w5 ⟨rfl, hb5⟩
                     have HB5 := Lib.hid hb5
                     clear hb5))
                go_cut [] (fun wx => RoomRel w5 { G with tx := some T' } ns wx)
                case first =>
                  -- DONE>
                  have hR5 := H5.out.1.below HB5.out
                  have hs5 : G.J.seq < 4611686018427387904 := by have := HH.out.2.2.1; omega
                  have HRs := Lib.hid (And.intro hR5 hs5)
                  clear hR5 hs5
                  go_wp2_with fail
                  · refine (settle_c { G with tx := some T' } w5 HRs.out.1 HRs.out.2).mono ?_
                    rintro e w6 ⟨rfl, D', J', k1, k2, k3, k4, k5, k6, k7, k8, k9, k10⟩
                    have HK := Lib.hid (And.intro k1 (And.intro k2 (And.intro k3 (And.intro k4 (And.intro k5 (And.intro k6 (And.intro k7 (And.intro k8 (And.intro k9 k10)))))))))
                    clear k1 k2 k3 k4 k5 k6 k7 k8 k9 k10
                    go_wp2_with fail
                    go_meet
                    obtain ⟨k1, k2, k3, k4, k5, k6, k7, k8, k9, k10⟩ := HK.out
                    refine ⟨D', J', [], noF, Lib.hid k1, Lib.hid ⟨k2, k3, k4, k5, by rw [k6]; exact Nat.le_refl _, .inr ⟨k7, rfl⟩, k8, k9, ?_⟩, Lib.hid k10⟩
                    rw [k7]
                    exact most_room H5.out.1.B4 H5.out.1.B300 (by rw [← HM.out]; exact HM2.out.2) H5.out.2.2.1
                  · rename_i hov
                    have HV := Lib.hid hov
                    clear hov
                    go_meet
                    have hR5 := HRs.out.1
                    have hj := hR5.jroom
                    have hfit := hR5.log.fits
                    refine ⟨G.D, G.J, G.ks, G.f, Lib.hid hR5, Lib.hid ⟨rfl, rfl, rfl, rfl, Nat.le_succ _, .inl ⟨rfl, rfl⟩, fun _ _ => rfl, rfl, ?_⟩, Lib.hid (Turned.refl _ _)⟩
                    have h1 := H5.out.2.2.2
                    have h2 := HV.out
                    have h3 : G.J.room = (G.B - 2) * 512 := hj
                    have h4 : G.J.data.length ≤ G.J.room := hfit
                    show G.J.data.length + (ns + 14) ≤ (G.B - 2) * 512
                    omega
                  -- <DONE
                case rest =>
                  obtain ⟨D2, J2, ks2, f2, HR2a, HRo, HT2a⟩ := hcut
                  have HR2 : Hid (PgRep wc { G with D := D2, J := J2, ks := ks2, f := f2, tx := some T' }) := HR2a
                  have HT2 : Hid (Turned (fun g => g = G.D.d ∨ g = G.D.bb ∨ g = G.J.b ∨ g = G.ob) w5 wc) := HT2a
                  clear HR2a HT2a
                  have z1 : wc.cell? ⟨G.P, 1, none⟩ = some (.pointer (some ⟨J2.b, 0, none⟩)) := HR2.out.blk.cell 1
                  have hG5 : PgRep w5 { G with tx := some T' } := H5.out.1.below HB5.out
                  have hSB2 : Bs 5 wc As ns cs (recB L) := (H5.out.2.1.below HB5.out).turned HT2.out (by
                    rintro g (e | e | e | e)
                    · subst e; exact hG5.disk.bd.not8 (by decide)
                    · subst e; exact hG5.disk.bb.not8 (by decide)
                    · subst e; exact hG5.log.blk.not8 (by decide)
                    · subst e; exact hG5.over.not8)
                  have hwa : Below wc.heap.size wc (wc.alloc (.cells #[.slice As ns cs] 31)) := (Below.refl _ _).alloc (Nat.le_refl _) _
                  have hjroom : J2.room = (G.B - 2) * 512 := HR2.out.jroom
                  have hjfrm : J2.frm = 1 := HR2.out.jfrm
                  have hfit2 : 2 + G.B + G.n ≤ D2.L.length := HR2.out.fit
                  have hB4 : 4 ≤ G.B := HR2.out.B4
                  have hB300 : G.B ≤ 300 := HR2.out.B300
                  have hseq2 : J2.seq ≤ G.J.seq + 1 := HRo.out.seq
                  have hrmv : J2.data.length + (ns + 14) ≤ (G.B - 2) * 512 := HRo.out.room
                  have hD2 : DiskRep wc D2 := HR2.out.disk
                  have hJ2 : LogRep wc D2.d J2 := HR2.out.log
                  have hlive2 : D2.Live := HR2.out.live
                  have hsync2 : D2.sync := HR2.out.sync
                  have hon2 : LogDisk D2.now J2 := HR2.out.on
                  have hadd := add_c D2 J2 wc.heap.size ns cs As (recB L) (wc.alloc (.cells #[.slice As ns cs] 31)) (hD2.below hwa) (hJ2.below hwa) hlive2 hsync2.1 (by have := HH.out.2.2.1; omega) hon2 (Blk.new wc _ _) (hSB2.below hwa) (by omega) (by rw [hSB2.len, hjroom]; exact hrmv) (by rw [hjroom]; omega) (by rw [hjroom]; omega) (by rw [hjroom, hjfrm]; omega)
                  have H6 := Lib.hid (And.intro hwa hjroom)
                  clear hG5 hSB2 hwa hjroom hjfrm hfit2 hseq2 hrmv hD2 hJ2 hlive2 hsync2 hon2
                  go_wp2_with fail
                  refine hadd.mono ?_
                  clear hadd
                  rintro e w7 ⟨rfl, D3, J3, hls, hsq3, hdt3⟩
                  have H7 := Lib.hid (And.intro hls (And.intro hsq3 hdt3))
                  clear hls hsq3 hdt3 z1
                  have hT7 : Turned (fun g => g = G.D.d ∨ g = G.D.bb ∨ g = G.J.b) wc w7 := by
                    have t := H7.out.1.turned
                    rw [HRo.out.d, HRo.out.bb, HRo.out.b] at t
                    exact (Turned.of_below (S := fun g => g = G.D.d ∨ g = G.D.bb ∨ g = G.J.b) H6.out.1).trans t (fun _ _ e => e)
                  have hdd : Blk wc G.D.d 81 D2.head := by rw [← HRo.out.d]; exact HR2.out.disk.bd
                  have hbb : Blk wc G.D.bb 116 D2.B := by rw [← HRo.out.bb]; exact HR2.out.disk.bb
                  have hjb : Blk wc G.J.b 126 (J2.head D2.d) := by rw [← HRo.out.b]; exact HR2.out.log.blk
                  have nb7 : ∀ {g : Nat} {t : TypeId} {cs : Array Value}, Blk wc g t cs → t ≠ 81 → t ≠ 116 → t ≠ 126 → ¬ (g = G.D.d ∨ g = G.D.bb ∨ g = G.J.b) := by
                    rintro g t cs hg h1 h2 h3 (e | e | e)
                    · exact hg.ne_ hdd h1 e
                    · exact hg.ne_ hbb h2 e
                    · exact hg.ne_ hjb h3 e
                  have nm7 : ∀ {g : Nat} {m : List (Int × Value)}, IMap wc g m → ¬ (g = G.D.d ∨ g = G.D.bb ∨ g = G.J.b) := by
                    rintro g m hg (e | e | e)
                    · exact hg.ne_blk hdd e
                    · exact hg.ne_blk hbb e
                    · exact hg.ne_blk hjb e
                  have h87 : ∀ g, (g = G.D.d ∨ g = G.D.bb ∨ g = G.J.b) → Not8 5 wc g := by
                    rintro g (e | e | e)
                    · subst e; exact hdd.not8 (by decide)
                    · subst e; exact hbb.not8 (by decide)
                    · subst e; exact hjb.not8 (by decide)
                  have hTw := HR2.out.tx T' rfl
                  have htxul := HR2.out.txul T' rfl
                  obtain ⟨om2, hom2, _⟩ := HR2.out.over.imap
                  obtain ⟨tm2, htm2, _⟩ := hTw.map.imap
                  have hP7 := HR2.out.blk.turned hT7 (nb7 HR2.out.blk (by decide) (by decide) (by decide))
                  have hO7 := HR2.out.over.turned hT7 (nm7 hom2) h87
                  have hQ7 := HR2.out.pool.turned hT7 (nb7 HR2.out.pool.bp (by decide) (by decide) (by decide)) (nb7 HR2.out.pool.bf (by decide) (by decide) (by decide)) (nm7 HR2.out.pool.bm) h87
                  have hM7 := hTw.map.turned hT7 (nm7 htm2) h87
                  have hTb7 := hTw.blk.turned hT7 (nb7 hTw.blk (by decide) (by decide) (by decide))
                  rw [HX.out.2.2.2.1] at hM7
                  rw [HX.out.2.1] at hTb7
                  have hne1 : T.pb ≠ G.ob := by rw [← HX.out.2.2.2.1]; exact htxul.2.2.1
                  have hne2 : T.pb ≠ G.Q.mb := by rw [← HX.out.2.2.2.1]; exact htxul.2.2.2.1
                  have hne3 : G.ob ≠ G.Q.mb := HR2.out.ne1
                  have hA7 : Rd 3 1 w7 A k c (ints zs) := by
                    have hlow : ∀ g, (g = G.D.d ∨ g = G.D.bb ∨ g = G.J.b ∨ g = G.ob) → g < wd.heap.size := by
                      have hRd := HRd.out
                      rintro g (e | e | e | e)
                      · subst e; exact hRd.disk.bd.lt
                      · subst e; exact hRd.disk.bb.lt
                      · subst e; exact hRd.log.blk.lt
                      · subst e; exact hRd.over.lt
                    have hsz := H1.out.2.1.size
                    have a1 := (H3.out.1.below HWr.out).below HB5.out
                    have a2 := a1.turned' HT2.out (fun g o e he => by have := hlow g he; have := H3.out.2.2.2.2.1 g o e; omega)
                    exact a2.turned' hT7 (fun g o e he => by have := hlow g (he.elim .inl (fun he => he.elim (fun e => .inr (.inl e)) (fun e => .inr (.inr (.inl e))))); have := H3.out.2.2.2.2.1 g o e; omega)
                  have H8 := Lib.hid (And.intro hT7 (And.intro hP7 (And.intro hO7 (And.intro hQ7 (And.intro hM7 (And.intro hTb7 (And.intro hne1 (And.intro hne2 (And.intro hne3 hA7)))))))))
                  clear hT7 hdd hbb hjb nb7 nm7 h87 hTw htxul hom2 htm2 hP7 hO7 hQ7 hM7 hTb7 hne1 hne2 hne3 hA7
                  go_wp2_with fail
                  go_loopw [130] (fun i wr => OverRel w7 G.Q G.ob ks2 f2 L i wr) (fun i _ => k - (intOf i).toNat)
                  case atStart => exact ⟨0, G.Q, Nat.zero_le _, rfl, Lib.hid H8.out.2.2.1, Lib.hid ⟨H8.out.2.2.2.1, rfl, rfl, rfl, fun fr hfr h0 => ⟨⟨fr, hfr, rfl, rfl⟩, fun x hx => by simp at hx⟩⟩, Lib.hid (Turned.refl _ _)⟩
                  case round =>
                    obtain ⟨j, Q', hj, rfl, HOv, HQv, HTv⟩ := hrel
                    obtain ⟨hT7, hP7, hO7, hQ7, hM7, hTb7, hne1, hne2, hne3, hA7⟩ := H8.out
                    have hnP : ∀ {g : Nat} {t : TypeId} {cs : Array Value}, Blk w7 g t cs → t ≠ 61 → t ≠ 64 → ¬ (g = G.ob ∨ G.Q.own g) := fun hg h1 h2 e => e.elim (fun e => hO7.ne_blk hg e.symm) (pool_ne hQ7 hg h1 h2)
                    have hPw := hP7.turned HTv.out (hnP hP7 (by decide) (by decide))
                    have hTbw := hTb7.turned HTv.out (hnP hTb7 (by decide) (by decide))
                    have c8w : wr.cell? ⟨G.P, 8, none⟩ = some (.pointer (some ⟨T'.b, 0, none⟩)) := hPw.cell 8
                    have c2w : wr.cell? ⟨T.b, 2, none⟩ = some (.map (some T'.pb)) := hTbw.cell 2
                    rw [HX.out.2.2.2.1] at c2w
                    by_cases hjk : j < k
                    · obtain ⟨n, hn⟩ : ∃ n, zs[j]? = some n := ⟨_, List.getElem?_eq_getElem (by have := H3.out.2.2.1; omega)⟩
                      obtain ⟨q, l, rfl, hfq, hqn, hl5⟩ := HL.out.2.2.2.1 n (List.mem_of_getElem? hn)
                      have hxk : L[j]? = some (q, l) := by
                        rw [HL.out.1]
                        unfold recL
                        rw [List.getElem?_map, hn]
                        show some ((q : Int).toNat, (T'.f (q : Int)).getD []) = _
                        rw [hfq, Int.toNat_natCast]; rfl
                      have hMw := hM7.turned HTv.out (fun e => e.elim (fun e => hne1 e) (pool_ne_map hQ7 hM7 hne2)) (fun g e => e.elim (fun e => by subst e; exact hO7.not8) (hQ7.not8 g))
                      have hdr : Below wr.heap.size wr wr.drew := Turned.below (Turned.refl _ wr).drew
                      obtain ⟨Al, cl, hlk, hBl⟩ := (hMw.below hdr).at_ hfq
                      obtain ⟨w8, hrun, hO8, ht8, hs8⟩ := (HOv.out.below hdr).update (q : Int) hBl
                      have hPd : Blk wr.drew G.P 89 (PgG.head { G with D := D2, J := J2, ks := ks2, f := f2, tx := some T' }) := hPw
                      have hTd : Blk wr.drew T.b 97 T'.head := hTbw
                      have hOd := HOv.out.below hdr
                      have hP8 := hPd.turned ht8 (fun e => hOd.ne_blk hPd e.symm)
                      have hTb8 := hTd.turned ht8 (fun e => hOd.ne_blk hTd e.symm)
                      have hQd := HQv.out.1.below hdr
                      have hne4 : G.ob ≠ Q'.mb := by rw [HQv.out.2.2.2.1]; exact hne3
                      have hQ8 := hQd.turned ht8 (fun e => hOd.ne_blk hQd.bp e.symm) (fun e => hOd.ne_blk hQd.bf e.symm) (fun e => hne4 e.symm) (fun g e => by subst e; exact hOd.not8)
                      have hdrop := drop_pg Q' q w8 hQ8
                      rw [HQv.out.2.1] at hdrop
                      have c28 : w8.cell? ⟨G.P, 2, none⟩ = some (.pointer (some ⟨G.Q.p, 0, none⟩)) := hP8.cell 2
                      have c2d : wr.drew.cell? ⟨T.b, 2, none⟩ = some (.map (some T.pb)) := c2w
                      have c28t : w8.cell? ⟨T.b, 2, none⟩ = some (.map (some T.pb)) := (hTb8.cell 2).trans ((hTd.cell 2).symm.trans c2d)
                      have hS0 : wr.drew.cell? ⟨G.P, 7, none⟩ = some (.map (some G.ob)) ∧ wr.drew.cell? ⟨T.b, 2, none⟩ = some (.map (some T.pb)) := ⟨hPd.cell 7, c2d⟩
                      have hS8 : w8.cell? ⟨G.P, 7, none⟩ = some (.map (some G.ob)) ∧ w8.cell? ⟨T.b, 2, none⟩ = some (.map (some T.pb)) := ⟨hP8.cell 7, c28t⟩
                      have hz : (ints zs)[j]? = some (.int .i64 (q : Int)) := by unfold ints; rw [List.getElem?_map, hn]; rfl
                      have hAw := hA7.turned' HTv.out (fun g o e he => by
                        have h1 := H3.out.2.2.2.2.1 g o e
                        have h2 := H1.out.2.1.size
                        have hRd := HRd.out
                        have l1 : G.ob < wd.heap.size := hRd.over.lt
                        have l2 : G.Q.p < wd.heap.size := hRd.pool.bp.lt
                        have l3 : G.Q.fb < wd.heap.size := hRd.pool.bf.lt
                        have l4 : G.Q.mb < wd.heap.size := hRd.pool.bm.lt
                        rcases he with he | he | he | he <;> omega)
                      obtain ⟨g, o, hAe, hcell⟩ := hAw.cell hz
                      subst hAe
                      have HZ := Lib.hid (And.intro hxk (And.intro hO8 (And.intro ht8 (And.intro hdr hOd))))
                      have hj0 : (0 : Int) ≤ (j : Int) := by omega
                      have hj1 : (j : Int) < (k : Int) := by omega
                      clear hT7 hP7 hO7 hQ7 hM7 hTb7 hne1 hne2 hne3 hA7 hnP hPw hTbw hn hfq hqn hl5 hxk hMw hdr hBl hO8 ht8 hs8 hPd hTd hOd hP8 hTb8 hQd hne4 hQ8 c2d c28t hz hAw
                      go_wp2_with fail
                      go_region_held (fun W => W.cell? ⟨G.P, 7, none⟩ = some (.map (some G.ob)) ∧ W.cell? ⟨T.b, 2, none⟩ = some (.map (some T.pb))) (first | assumption) (fail)
                      all_goals (
                        clear hS0 hS8 hlk hrun
                        go_wp2_with fail
                        refine hdrop.mono ?_
                        clear hdrop
                        rintro e w9 ⟨b9, Q9, rfl, hQ9, r1, r2, r3, hT9, hfr9⟩
                        have HZ9 := Lib.hid (And.intro hQ9 (And.intro r1 (And.intro r2 (And.intro r3 (And.intro hT9 hfr9)))))
                        clear hQ9 r1 r2 r3 hT9 hfr9
                        go_wp2_with fail
                        obtain ⟨hxk, hO8, ht8, hdr, hOd⟩ := HZ.out
                        obtain ⟨hQ9, r1, r2, r3, hT9, hfr9⟩ := HZ9.out
                        obtain ⟨v1, v2, v3, v4, v5⟩ := HQv.out
                        have hown : ∀ g, Q'.own g ↔ G.Q.own g := fun g => by unfold PoolG.own; rw [v2, v3, v4]
                        refine ⟨⟨j + 1, Q9, by have := HL.out.2.1; omega, by go_num, Lib.hid ?_, Lib.hid ⟨hQ9, r1.trans v2, r2.trans v3, r3.trans v4, ?_⟩, Lib.hid ?_⟩, by simp [intOf]; omega⟩
                        · rw [redoK_step hxk, redoF_step hxk]
                          have hne5 : ¬ Q'.own G.ob := by
                            rintro (e | e | e)
                            · exact hOd.ne_blk (v1.below hdr).bp e
                            · exact hOd.ne_blk (v1.below hdr).bf e
                            · exact absurd (e.trans v4) H8.out.2.2.2.2.2.2.2.2.1
                          exact hO8.turned hT9 hne5 (fun g e => by
                            have := (v1.below hdr).not8 g e
                            intro cs fr h
                            have hg : g ≠ G.ob := fun h2 => hne5 (h2 ▸ e)
                            rcases e with e | e | e
                            · subst e; rw [ht8.block _ (v1.below hdr).bp.lt hg] at h; exact this cs fr h
                            · subst e; rw [ht8.block _ (v1.below hdr).bf.lt hg] at h; exact this cs fr h
                            · subst e; rw [ht8.block _ (v1.below hdr).bm.lt hg] at h; exact this cs fr h)
                        · intro fr hf h0
                          obtain ⟨a1, a2⟩ := hfr9 fr hf
                          obtain ⟨g, hg, e1, e2⟩ := a2 h0
                          obtain ⟨⟨g', hg', e3, e4⟩, a3⟩ := v5 g hg (by omega)
                          refine ⟨⟨g', hg', e1.trans e3, e2.trans e4⟩, fun x hx => ?_⟩
                          rw [take_snoc' hxk, List.mem_append] at hx
                          rcases hx with hx | hx
                          · rw [e1]; exact a3 x hx
                          · rw [List.mem_singleton] at hx; subst hx; exact a1
                        · exact ((HTv.out.drew).trans ht8 (fun g _ e => .inl e)).trans hT9 (fun g _ e => .inr ((hown g).1 e)))
                    · obtain rfl : j = k := by have := HL.out.2.1; omega
                      have t0w : wr.cell? ⟨T.b, 0, none⟩ = some (.slice (some ⟨T'.M.ub, 0, none⟩) T'.M.used.length T'.M.uc) := hTbw.cell 0
                      have t1w : wr.cell? ⟨T.b, 1, none⟩ = some (.slice T'.M.rA T'.M.root.length T'.M.rc) := hTbw.cell 1
                      have p5 : wr.cell? ⟨G.P, 5, none⟩ = some (.slice (some ⟨G.M.ub, 0, none⟩) G.M.used.length G.M.uc) := hPw.cell 5
                      have p6 : wr.cell? ⟨G.P, 6, none⟩ = some (.slice G.M.rA G.M.root.length G.M.rc) := hPw.cell 6
                      have f5 := hPw.frozen 5
                      have f6 := hPw.frozen 6
                      have f8 := hPw.frozen 8
                      have hPw' := hPw
                      clear hT7 hP7 hO7 hQ7 hM7 hTb7 hne1 hne2 hne3 hA7 hnP hPw hTbw
                      have HPw := Lib.hid hPw'
                      clear hPw'
                      go_wp2_with fail
                      go_ret
                      have hks : T.sealed.ks = T'.ks := by rw [HX.out.1]
                      have hkl : T'.ks.length = j := by rw [H1.out.2.2.2.2.2.1, List.length_map]; exact H1.out.2.2.2.2.2.2
                      refine .inr (.inr ⟨fun e => HM2.out.1 (by rw [← hkl, ← hks, e]; rfl), by rw [hks, hkl, ← HM.out]; have := HM2.out.2; omega, rfl, ?_⟩)
                      obtain ⟨v1, v2, v3, v4, v5⟩ := HQv.out
                      have hO := HOv.out
                      rw [← HL.out.2.1, List.take_length] at hO v5
                      have hT9 : Turned (fun x => x = G.P) wr (((wr.setCell ⟨G.P, 5, none⟩ (.slice (some ⟨T'.M.ub, 0, none⟩) T'.M.used.length T'.M.uc)).setCell ⟨G.P, 6, none⟩ (.slice T'.M.rA T'.M.root.length T'.M.rc)).setCell ⟨G.P, 8, none⟩ (.pointer none)) :=
                        Turned.setCell (S := fun x => x = G.P) (Turned.setCell (S := fun x => x = G.P) (Turned.setCell (S := fun x => x = G.P) (Turned.refl _ wr) (p := ⟨G.P, 5, none⟩) (fun _ => rfl) _) (p := ⟨G.P, 6, none⟩) (fun _ => rfl) _) (p := ⟨G.P, 8, none⟩) (fun _ => rfl) _
                      refine commit_fin (zs := zs) (wz := wc) (ns := ns) HH.out.2.1 HX.out.1 HR2.out HRo.out ?_ H8.out.1 H7.out.1 H7.out.2.1 H7.out.2.2 HTv.out hO v1 v2 v3 v4 v5 hT9 (((HPw.out.set_ 5 _).set_ 6 _).set_ 8 _) HL.out.1 (by rw [HL.out.2.1]; exact hu2) HL.out.2.2.1 ?_ (fun k hk => by obtain ⟨q, l, rfl, _⟩ := HL.out.2.2.2.1 k hk; omega)
                      · have t1 : Turned G.own w wd := by
                          rw [HWd.out]
                          exact (HTn.out.more (S' := G.own) (fun g _ e => by subst e; exact pgown_pb HH.out.2.1)).drew
                        have b1 := H3.out.2.1.trans (HWr.out.mono H3.out.2.1.size)
                        have b2 := b1.trans (HB5.out.mono b1.size)
                        refine (t1.trans (Turned.of_below (S := G.own) b2) (fun _ _ e => e)).trans HT2.out (fun g _ e => ?_)
                        unfold PgG.own
                        rcases e with e | e | e | e <;> simp [e]
                      · intro k
                        rw [H3.out.2.2.2.2.2]
                        exact (sortI_perm T'.ks).mem_iff.trans (HL.out.2.2.2.2.2.1.mem k)
          · -- R1>
            obtain ⟨hR1, hb1, hs1, hr, hpb, hks1, hvl⟩ := H1.out
            have HO2 := Lib.hid (own_turned HO.out ht2 (fun g e => by have := hfresh g e; omega))
            have H2 := Lib.hid (And.intro hR2 (And.intro ht2 (And.intro hs2 (And.intro hfresh hu))))
            rw [← hu] at HO2 ⊢
            have hb4 : w1.heap.size ≤ w2.heap.size := by rw [hs2]; exact HB.out
            clear hget hnin hlv hfresh hR2 ht2 hs2 hx16 hvl2 hu hR1 hb1 hs1 hr hpb hks1 hvl
            go_wp2_with (
              (refine at_dst 74 rfl ?_)
              obtain ⟨i0, hi, hz, hs, hb⟩ := HI.out
              (refine wpList_append_rd rfl (.tmp 71) (.tmp 73) 22 rfl Try.underlying22 hi hz hs hb rfl (by decide) w1.heap.size (.slice A u c) rfl (HO2.out.alloc _) rfl
                (Rd.of_blk (n := 1) (c := 1) (sz := 1) (cs := #[.int .i64 n]) (by simpa using Blk.new w2 3 #[.int .i64 n]) (Nat.le_refl _) (by simp [maxLen]) (by simp)) (by simp [Value.oneCell']) (by simp only [maxLen]; omega) (by omega) (by simp; omega) ?_)
              intro v3 w3 hown3 hgr3 hat3
              have HO3 := Lib.hid hown3
              have HG3 := Lib.hid hgr3
              clear hown3 hgr3 hat3 hi hz hs hb)
            obtain ⟨hR2, ht2, hs2, hfresh, hu⟩ := H2.out
            obtain ⟨hR1, hb1, hs1, hr, hpb, hks1, hvl⟩ := H1.out
            have hres := coll_round (W := wd.heap.size) (base := w1.heap.size) (w0 := wd) (vm := vm1) hu rfl (by omega) (by omega) (by omega) HW.out HB.out hR2 ht2 hs2 hfresh HO3.out HG3.out
            go_roundw
            case rel => exact hres.1
            case measure => exact hres.2
end Go.Proofs.Ytliakkpmmmgmhaa
/- What a store was told to keep stands in its journal and at its places. -/
namespace Go.Proofs.Ytliakkpmmmgmhaa
open Go.RowKit

/-- The journal's records, and that the store is laid: enough to open it again. -/
structure Hist (G : PgG) (recs : List (List (Nat × List UInt8))) : Prop where
  ok : ∀ L ∈ recs, RecOk G.n L
  data : G.J.data = frames (recs.map recB)
  f : G.f = redoF noF recs.flatten
  page0 : pageOf G.D G.B G.f 0 = encB G.M.used G.M.root
  label : G.D.now[0]? = some (labelB G.B G.n)
/-- A transaction that has begun here. -/
structure TxOk (G : PgG) (T : TxG) : Prop where
  zero : T.f 0 = none
  same : T.own = false → T.M.used = G.M.used ∧ T.M.root = G.M.root
theorem recB_pos (L : List (Nat × List UInt8)) : 0 < (recB L).length := by
  unfold recB
  rw [List.length_append]
  have := numB_pos L.length
  omega
theorem frames_few : ∀ r : List (List UInt8), r.length ≤ (frames r).length
  | [] => Nat.le_refl _
  | s :: r => by
    have := frames_few r
    rw [frames_cons, List.length_append, frameB_len, List.length_cons]
    omega
theorem Hist.few {w : World} {G : PgG} {recs : List (List (Nat × List UInt8))} (h : Hist G recs) (hr : PgRep w G) : recs.length ≤ 1000000 := by
  have h1 := frames_few (recs.map recB)
  rw [← h.data, List.length_map] at h1
  have h2 := hr.log.fits
  rw [hr.jroom] at h2
  have := hr.B300
  omega
theorem Hist.store {w : World} {G : PgG} {recs : List (List (Nat × List UInt8))} (h : Hist G recs) (hr : PgRep w G) : StoreN G.D.now G.B G.n recs G.J.seq G.J.data G.M.used G.M.root := by
  refine ⟨.inr ⟨G.J, hr.on, hr.jfrm, hr.jroom, rfl, rfl, h.data, ?_, hr.log.seq, ?_, ?_⟩, h.ok, ?_, hr.ul, hr.mrep.rl, ?_⟩
  · have := hr.log.fits
    rw [hr.jroom] at this; exact this
  · intro s hs
    obtain ⟨L, _, rfl⟩ := List.mem_map.1 hs
    exact recB_pos L
  · rw [List.length_map]; exact h.few hr
  · have := h.page0
    rw [h.f] at this
    exact this
  · exact h.few hr
/-- A store that has been opened. -/
theorem OpenDone.hist {w w' : World} {D : DiskG} {N : List (List UInt8)} {B n : Nat} {recs : List (List (Nat × List UInt8))} {seq : Nat} {data : List UInt8} {used : List Bool} {root : List UInt8} {e : Ending} (h : OpenDone w D N B n recs seq data used root e w') (hst : StoreN N B n recs seq data used root) (hlab : N[0]? = some (labelB B n)) :
    ∃ G : PgG, e = .returned (.tuple #[.pointer (some ⟨G.P, 0, none⟩), .int .i64 0]) ∧ PgRep w' G ∧ G.B = B ∧ G.n = n ∧ G.tx = none ∧ G.M.used = used ∧ G.M.root = root ∧ G.J.seq = seq ∧ G.D.d = D.d ∧ G.D.bb = D.bb ∧ G.D.L.length = D.L.length ∧ Hist G recs ∧ Turned (fun k => k = D.d ∨ k = D.bb) w w' ∧ (∀ k, G.own k → k = D.d ∨ k = D.bb ∨ w.heap.size ≤ k) ∧ (∀ k, k ≤ n → pageOf G.D B G.f k = pageN N B (redoF noF recs.flatten) k) := by
  obtain ⟨G, he, h1, h2, h3, h4, h5, h6, h7, h8, h9, h10, h11, h12, h13, h14, h15, h16⟩ := h
  have hpg : ∀ k, k ≤ n → pageOf G.D B G.f k = pageN N B (redoF noF recs.flatten) k := by
    intro k hk
    unfold pageOf pageN
    rw [h7, h13 _ (.inr (by omega))]
    cases redoF noF recs.flatten (k : Int) <;> rfl
  refine ⟨G, he, h1, h2, h3, h4, h5, h6, h11, h8, h9, h10, ⟨?_, ?_, h7, ?_, ?_⟩, h14, h16, hpg⟩
  · rw [h3]; exact hst.ok
  · rw [h12]
    rcases hst.jrn with ⟨_, _, h, _, h'⟩ | ⟨J, _, _, _, _, _, h, _⟩
    · rw [h', h]; rfl
    · exact h
  · rw [h2, h5, h6, hpg 0 (Nat.zero_le _)]
    exact hst.page0
  · rw [h2, h3, h13 0 (.inl (by omega))]; exact hlab
/-- A transaction that is let go leaves all as it was. -/
theorem Hist.off {G : PgG} {recs : List (List (Nat × List UInt8))} (h : Hist G recs) (t : Option TxG) : Hist { G with tx := t } recs := ⟨h.ok, h.data, h.f, h.page0, h.label⟩
theorem Hist.kept {w w' : World} {G : PgG} {T : TxG} {recs : List (List (Nat × List UInt8))} (h : Hist G recs) (ht : TxOk G T) (hk : CommitKept w G T w') :
    ∃ (D' : DiskG) (J' : LogG) (Q' : PoolG) (ks' : List Int) (f' : Int → Option (List UInt8)) (recs' : List (List (Nat × List UInt8))), PgRep w' { G with D := D', J := J', Q := Q', M := T.M, ks := ks', f := f', tx := none } ∧ Hist { G with D := D', J := J', Q := Q', M := T.M, ks := ks', f := f', tx := none } recs' ∧ D'.L.length = G.D.L.length ∧ J'.seq ≤ G.J.seq + 2 ∧
      (∀ k : Nat, k ≤ G.n → pageOf D' G.B f' k = match T.sealed.f (k : Int) with | some l => l | none => pageOf G.D G.B G.f k) ∧ Turned G.own w w' ∧ (∀ k, PgG.own { G with D := D', J := J', Q := Q', M := T.M, ks := ks', f := f', tx := none } k → G.own k) ∧ D'.d = G.D.d ∧ D'.bb = G.D.bb := by
  obtain ⟨D', J', Q', ks', f', h1, h2, h3, h4, h5, ⟨L, h6, h7⟩, h8, h9, h10, h11⟩ := hk
  have hp0 : pageOf D' G.B f' 0 = encB T.M.used T.M.root := by
    have := h4 0 (Nat.zero_le _)
    rw [this]
    cases ho : T.own with
    | true =>
      rw [sealed_yes ho]
      show (match pput T.f 0 (encB T.M.used T.M.root) ((0 : Nat) : Int) with | some l => l | none => pageOf G.D G.B G.f 0) = _
      rw [show ((0 : Nat) : Int) = 0 from rfl, pput_same]
    | false =>
      rw [sealed_no ho, show ((0 : Nat) : Int) = 0 from rfl, ht.zero]
      obtain ⟨e1, e2⟩ := ht.same ho
      rw [e1, e2]
      exact h.page0
  rcases h7 with ⟨h7, h12⟩ | ⟨h7, h12⟩
  · refine ⟨D', J', Q', ks', f', recs ++ [L], h1, ⟨?_, ?_, ?_, hp0, ?_⟩, h2, h3, h4, h8, h9, h10, h11⟩
    · intro L' hL'
      rcases List.mem_append.1 hL' with hL' | hL'
      · exact h.ok L' hL'
      · rw [List.mem_singleton] at hL'; subst hL'; exact h6
    · show J'.data = _
      rw [h7, h.data, List.map_append, List.map_cons, List.map_nil, frames_snoc]
    · show f' = _
      rw [h12, h.f, List.flatten_append, redoF_append]
      simp
    · show D'.now[0]? = _; rw [h5]; exact h.label
  · refine ⟨D', J', Q', ks', f', [L], h1, ⟨?_, ?_, ?_, hp0, ?_⟩, h2, h3, h4, h8, h9, h10, h11⟩
    · intro L' hL'
      rw [List.mem_singleton] at hL'; subst hL'; exact h6
    · show J'.data = _
      rw [h7]; simp [frames]
    · show f' = _
      rw [h12]; simp
    · show D'.now[0]? = _; rw [h5]; exact h.label
/-- A disk that was laid for a store. -/
theorem laid_store (N : List (List UInt8)) (B n : Nat) (hB : 4 ≤ B) (hl : 2 + B ≤ N.length) : StoreN (laidN N B n) B n [] 1 [] (List.replicate (n + 1) false) [] ∧ (laidN N B n)[0]? = some (labelB B n) := by
  have hlay : (layN N 2).length = N.length := by simp [layN]
  refine ⟨⟨.inl ⟨?_, ?_, rfl, rfl, rfl⟩, by simp, ?_, by simp, by simp, by simp⟩, ?_⟩
  · unfold laidN
    rw [List.getElem?_set_ne (by omega), List.getElem?_set_ne (by omega)]
    simp [layN, show 1 < N.length by omega]
  · unfold laidN
    rw [List.getElem?_set_ne (by omega), List.getElem?_set_ne (by omega)]
    simp [layN, show 2 < N.length by omega]
  · unfold pageN
    show ((laidN N B n)[1 + B + 0]?).getD [] = _
    unfold laidN
    rw [List.getElem?_set_ne (by omega)]
    show (((layN N 2).set (1 + B) (encB (List.replicate (n + 1) false) []))[1 + B]?).getD [] = _
    rw [List.getElem?_set_self (by rw [hlay]; omega)]
    rfl
  · unfold laidN
    rw [List.getElem?_set_self (by rw [List.length_set, hlay]; omega)]
/-- Nothing of old turns where only the store's own blocks turn, all of which are new. -/
theorem below_own {w0 w w' : World} {S : Nat → Prop} (hb : Below w0.heap.size w0 w) (hN : ∀ k, S k → w0.heap.size ≤ k) (ht : Turned S w w') : Below w0.heap.size w0 w' :=
  ⟨ht.os.trans hb.os, ht.tape.trans hb.tape, ht.output.trans hb.output, Nat.le_trans hb.size ht.size, fun i hi => (ht.block i (Nat.lt_of_lt_of_le hi hb.size) (fun e => by have := hN i e; omega)).trans (hb.block i hi)⟩
end Go.Proofs.Ytliakkpmmmgmhaa
/- What the statements of the pager begin with: a page of a byte; what the document says of Most; a store that lives. -/
namespace Go.Proofs.Ytliakkpmmmgmhaa
open Go.RowKit

set_option maxRecDepth 100000 in
set_option maxHeartbeats 1000000 in
theorem refmost_c (log : Int) (w : World) : Calls Try.prog 18 #[.int .i64 log] w fun e w' => e = .returned (.int .i64 (mostM log)) ∧ w = w' := by
  by_cases h : log < 3
  · have e : mostM log = 0 := if_pos h
    rw [e]
    clear e
    go_enter Try.func18, Try.ntmps18
    go_wp2
    go_ret
    exact ⟨rfl, rfl⟩
  · have e : mostM log = ((min log 4096 - 2) * 512 - 16) / 516 := if_neg h
    rw [e]
    clear e
    by_cases h2 : log ≤ 4096
    · have hm : min log 4096 = log := by omega
      rw [hm]
      have ht : ((log - 2) * 512 - 16).tdiv 516 = ((log - 2) * 512 - 16) / 516 := Int.tdiv_eq_ediv_of_nonneg (by omega)
      have hb1 : log ≤ 4096 := h2
      go_enter Try.func18, Try.ntmps18
      go_wp2_with fail
      go_ret
      exact ⟨rfl, rfl⟩
    · have hm : min log 4096 = 4096 := by omega
      rw [hm]
      go_enter Try.func18, Try.ntmps18
      go_wp2_with fail
      go_ret
      exact ⟨rfl, rfl⟩
/-- A page of a byte, the first k bytes laid. -/
def fillB (c : UInt8) (k : Nat) : List UInt8 := List.replicate k c ++ zeros (512 - k)
theorem fillB_len (c : UInt8) {k : Nat} (hk : k ≤ 512) : (fillB c k).length = 512 := by simp [fillB, zeros]; omega
theorem fillB_step (c : UInt8) {k : Nat} (hk : k < 512) : (fillB c k).set k c = fillB c (k + 1) := by
  unfold fillB zeros
  rw [List.set_append_right _ _ (by simp), List.length_replicate, Nat.sub_self]
  obtain ⟨m, hm⟩ : ∃ m, 512 - k = m + 1 := ⟨511 - k, by omega⟩
  rw [hm, List.replicate_succ, List.set_cons_zero, show 512 - (k + 1) = m by omega, List.replicate_succ', List.append_assoc]
  rfl
def pageB (c : UInt8) : List UInt8 := List.replicate 512 c
def GivesPage (w : World) (c : UInt8) (e : Ending) (w' : World) : Prop := ∃ g, e = .returned (.slice (some ⟨g, 0, none⟩) 512 512) ∧ Blk w' g 5 (u8s (pageB c)).toArray ∧ Below w.heap.size w w' ∧ w.heap.size ≤ g
def FillRel (w : World) (g : Nat) (c : UInt8) (i : Value) (wr : World) : Prop := ∃ k : Nat, k ≤ 512 ∧ i = .int .i64 (k : Int) ∧ Hid (Blk wr g 5 (u8s (fillB c k)).toArray) ∧ Hid (Below w.heap.size w wr)
set_option maxRecDepth 100000 in
set_option maxHeartbeats 1000000 in
theorem lpage_c (c : UInt8) (x : Int) (hx : x = (c.toNat : Int)) (w : World) : Calls Try.prog 29 #[.int .u8 x] w (GivesPage w c) := by
  have HX := Lib.hid hx
  clear hx
  go_enter Try.func29, Try.ntmps29
  go_wp2_with (
    (refine at_dst 5 rfl ?_)
    (refine wpList_make_bs rfl (.const (.int .i64 512)) (.const (.int .i64 512)) rfl .i64 .i64 512 512 512 rfl rfl rfl rfl (by omega) ?_)
    intro w1 hb1 hbel1 hs1
    have H1 := Lib.hid (And.intro hb1 hbel1)
    clear hb1 hbel1 hs1)
  obtain ⟨g, hg⟩ : ∃ g, g = w.heap.size := ⟨_, rfl⟩
  rw [← hg]
  have HG := Lib.hid hg
  clear hg
  go_loopw [8] (fun i wr => FillRel w g c i wr) (fun i _ => 512 - (intOf i).toNat)
  case atStart => exact ⟨0, Nat.zero_le _, rfl, Lib.hid (by rw [HG.out]; exact H1.out.1), Lib.hid H1.out.2⟩
  case round =>
    obtain ⟨k, hk, rfl, HB, HW⟩ := hrel
    by_cases hkl : k < 512
    · have hk0 : (0 : Int) ≤ (k : Int) := by omega
      have hk1 : (k : Int) < 512 := by omega
      obtain ⟨v, hv⟩ : ∃ v, (u8s (fillB c k)).toArray[k]? = some v := ⟨_, Array.getElem?_eq_getElem (by rw [List.size_toArray, u8s_length, fillB_len c hk]; exact hkl)⟩
      have cd : wr.cell? ⟨g, k, none⟩ = some v := (HB.out.cell k).trans hv
      have fd := HB.out.frozen k
      have hset := HB.out.set_ k (.int .u8 (c.toNat : Int))
      rw [u8s_set, fillB_step c hkl, ← HX.out] at hset
      have HS := Lib.hid (And.intro hset (HW.out.setCell (p := ⟨g, k, none⟩) (by show w.heap.size ≤ g; rw [HG.out]; exact Nat.le_refl _) (.int .u8 x)))
      clear hset hv HB
      go_wp2_with fail
      go_roundw
      case rel => exact ⟨k + 1, by omega, by go_num, Lib.hid HS.out.1, Lib.hid HS.out.2⟩
      case measure => simp [intOf]; omega
    · obtain rfl : k = 512 := by omega
      go_wp2_with fail
      go_ret
      exact ⟨g, rfl, by have := HB.out; rw [show fillB c 512 = pageB c by simp [fillB, pageB, zeros]] at this; exact this, HW.out, by rw [HG.out]; exact Nat.le_refl _⟩
theorem crashed_up {D : DiskG} (h : D.Live) (hs : D.sync) : D.crashed.up.Live ∧ D.crashed.up.sync ∧ D.crashed.up.now = D.now := by
  have hn : D.crashed.up.now = D.now := rfl
  have hsu : D.crashed.up.sure = D.sure := rfl
  have hsy : D.crashed.up.sync := ⟨rfl, by rw [hn, hsu]; exact hs.2⟩
  exact ⟨⟨h.fn, rfl, hsy.pend⟩, hsy, hn⟩
theorem label_zeros (B n : Nat) : zeros 512 ≠ labelB B n := by
  intro h
  have h1 := congrArg List.head? h
  have e1 : (zeros 512).head? = some 0 := rfl
  have e2 : (labelB B n).head? = some 100 := rfl
  rw [e1, e2] at h1
  exact absurd h1 (by decide)
/-- A store, all of whose blocks are new since w0. -/
structure St (w0 w : World) (G : PgG) (recs : List (List (Nat × List UInt8))) : Prop where
  rep : PgRep w G
  hist : Hist G recs
  newer : ∀ k, G.own k → w0.heap.size ≤ k
  below : Below w0.heap.size w0 w
theorem St.turned {w0 w w' : World} {G : PgG} {recs : List (List (Nat × List UInt8))} (h : St w0 w G recs) {S : Nat → Prop} (ht : Turned S w w') (hS : ∀ k, S k → G.own k) : Below w0.heap.size w0 w' :=
  below_own h.below (fun k hk => h.newer k (hS k hk)) ht
def Opened0 (w0 : World) (d bb B n : Nat) (recs : List (List (Nat × List UInt8))) (used : List Bool) (root : List UInt8) (seq : Nat) (pg : Nat → List UInt8) (e : Ending) (w' : World) : Prop :=
  ∃ G : PgG, e = .returned (.tuple #[.pointer (some ⟨G.P, 0, none⟩), .int .i64 0]) ∧ St w0 w' G recs ∧ G.B = B ∧ G.n = n ∧ G.tx = none ∧ G.M.used = used ∧ G.M.root = root ∧ G.J.seq = seq ∧ G.D.d = d ∧ G.D.bb = bb ∧ G.D.L.length = 2 + B + n ∧ ∀ k, k ≤ n → pageOf G.D B G.f k = pg k
theorem open_new (w0 : World) (d bb : Nat) (C : Array Value) (B n k : Nat) (w : World) (hb : Below w0.heap.size w0 w) (hd : w0.heap.size ≤ d) (hbb : w0.heap.size ≤ bb) (hD : DiskRep w (newD d bb (2 + B + n) C)) (hn1 : 1 ≤ n) (hn2 : n ≤ 1600) (hB4 : 4 ≤ B) (hB3 : B ≤ 300) (hk1 : 1 ≤ k) (hk2 : k ≤ 64) :
    Calls Try.prog 20 #[.pointer (some ⟨d, 0, none⟩), .int .i64 (B : Int), .int .i64 (k : Int)] w (Opened0 w0 d bb B n [] (List.replicate (n + 1) false) [] 1 (fun k => pageN (laidN (newD d bb (2 + B + n) C).now B n) B noF k)) := by
  obtain ⟨hst, hlab⟩ := laid_store (newD d bb (2 + B + n) C).now B n hB4 (by simp [DiskG.now, newD])
  have h0 : (newD d bb (2 + B + n) C).now[0]? = some (zeros 512) := by simp [DiskG.now, newD, List.getElem?_replicate]
  have hop := open_c (newD d bb (2 + B + n) C) B n k w hD (newD_live _ _ _ _) (newD_sync _ _ _ _) (by simp [newD]) hn1 hn2 hB4 hB3 hk1 hk2 _ [] 1 [] (List.replicate (n + 1) false) [] (.inr ⟨by rw [h0]; exact fun e => label_zeros B n (by injection e), rfl⟩) hst
  refine hop.mono ?_
  intro e w2 ho2
  obtain ⟨G, rfl, hR2, hB2, hn2, htx2, hu2, hr2, hs2, hd2, hbb2, hlen2, hH2, hT2, hN2, hpg2⟩ := ho2.hist hst hlab
  have hsz := hb.size
  refine ⟨G, rfl, ⟨hR2, hH2, fun g hg => ?_, ?_⟩, hB2, hn2, htx2, hu2, hr2, hs2, hd2, hbb2, hlen2.trans (by simp [newD]), hpg2⟩
  · rcases hN2 g hg with e | e | e
    · rw [e]; exact hd
    · rw [e]; exact hbb
    · omega
  · exact below_own hb (fun g hg => by rcases hg with e | e; (rw [e]; exact hd); (rw [e]; exact hbb)) hT2
theorem open_old (w0 : World) (D : DiskG) (B n k : Nat) (recs : List (List (Nat × List UInt8))) (seq : Nat) (data : List UInt8) (used : List Bool) (root : List UInt8) (w : World) (hb : Below w0.heap.size w0 w) (hd : w0.heap.size ≤ D.d) (hbb : w0.heap.size ≤ D.bb) (hD : DiskRep w D) (hL : D.Live) (hsy : D.sync) (hlen : D.L.length = 2 + B + n) (hn1 : 1 ≤ n) (hn2 : n ≤ 1600) (hB4 : 4 ≤ B) (hB3 : B ≤ 300) (hk1 : 1 ≤ k) (hk2 : k ≤ 64)
    (hst : StoreN D.now B n recs seq data used root) (hlab : D.now[0]? = some (labelB B n)) :
    Calls Try.prog 20 #[.pointer (some ⟨D.d, 0, none⟩), .int .i64 (B : Int), .int .i64 (k : Int)] w (Opened0 w0 D.d D.bb B n recs used root seq (fun k => pageN D.now B (redoF noF recs.flatten) k)) := by
  have hop := open_c D B n k w hD hL hsy hlen hn1 hn2 hB4 hB3 hk1 hk2 _ recs seq data used root (.inl ⟨hlab, rfl⟩) hst
  refine hop.mono ?_
  intro e w2 ho2
  obtain ⟨G, rfl, hR2, hB2, hn2, htx2, hu2, hr2, hs2, hd2, hbb2, hlen2, hH2, hT2, hN2, hpg2⟩ := ho2.hist hst hlab
  have hsz := hb.size
  refine ⟨G, rfl, ⟨hR2, hH2, fun g hg => ?_, ?_⟩, hB2, hn2, htx2, hu2, hr2, hs2, hd2, hbb2, hlen2.trans hlen, hpg2⟩
  · rcases hN2 g hg with e | e | e
    · rw [e]; exact hd
    · rw [e]; exact hbb
    · omega
  · exact below_own hb (fun g hg => by rcases hg with e | e; (rw [e]; exact hd); (rw [e]; exact hbb)) hT2
def Begun (w0 : World) (G : PgG) (recs : List (List (Nat × List UInt8))) (e : Ending) (w' : World) : Prop :=
  e = .returned (.int .i64 0) ∧ ∃ T, St w0 w' { G with tx := some T } recs ∧ TxOk G T ∧ T.M.used = G.M.used ∧ T.M.root = G.M.root ∧ T.ks = [] ∧ T.f = noF ∧ T.own = false
theorem own_tx {G : PgG} {t : Option TxG} {k : Nat} (h : PgG.own { G with tx := t } k) : G.own k ∨ ∃ T, t = some T ∧ T.own3 k := by
  unfold PgG.own at h ⊢
  rcases h with e | e | e | e | e | e | e | ⟨T, e1, e2⟩
  · exact .inl (.inl e)
  · exact .inl (.inr (.inl e))
  · exact .inl (.inr (.inr (.inl e)))
  · exact .inl (.inr (.inr (.inr (.inl e))))
  · exact .inl (.inr (.inr (.inr (.inr (.inl e)))))
  · exact .inl (.inr (.inr (.inr (.inr (.inr (.inl e))))))
  · exact .inl (.inr (.inr (.inr (.inr (.inr (.inr (.inl e)))))))
  · exact .inr ⟨T, e1, e2⟩
theorem own_of_tx {G : PgG} {T : TxG} (h : G.tx = some T) {k : Nat} (hk : T.own3 k) : G.own k := .inr (.inr (.inr (.inr (.inr (.inr (.inr ⟨T, h, hk⟩))))))
theorem begin_st {w0 w : World} {G : PgG} {recs : List (List (Nat × List UInt8))} (h : St w0 w G recs) (htx : G.tx = none) : Calls Try.prog 21 #[.pointer (some ⟨G.P, 0, none⟩)] w (Begun w0 G recs) := by
  refine (begin_tx_c G w h.rep htx).mono ?_
  rintro e w' ⟨rfl, T, h1, h2, h3, h4, h5, h6, h7, h8, h9, h10⟩
  have hsz := h.below.size
  refine ⟨rfl, T, ⟨h1, h.hist.off _, fun k hk => ?_, h.turned h7 (fun k e => by subst e; exact .inl rfl)⟩, ⟨by rw [h5]; rfl, fun _ => ⟨h2, h3⟩⟩, h2, h3, h4, h5, h6⟩
  rcases own_tx hk with hk | ⟨T2, e, hk⟩
  · exact h.newer k hk
  · injection e with e; subst e
    rcases hk with e | e | e <;> omega
/-- The transaction alone has turned. -/
theorem St.tx {w0 w w' : World} {G : PgG} {recs : List (List (Nat × List UInt8))} (h : St w0 w G recs) {T T' : TxG} (htx : G.tx = some T) (hr : PgRep w' { G with tx := some T' }) (ht : Turned T.own3 w w') (hb : T'.b = T.b) (hu : T'.M.ub = T.M.ub) (hp : T'.pb = T.pb) : St w0 w' { G with tx := some T' } recs := by
  refine ⟨hr, h.hist.off _, fun k hk => ?_, h.turned ht (fun k hk => own_of_tx htx hk)⟩
  rcases own_tx hk with hk | ⟨T2, e, hk⟩
  · exact h.newer k hk
  · injection e with e; subst e
    refine h.newer k (own_of_tx htx ?_)
    unfold TxG.own3 at hk ⊢
    rw [← hb, ← hu, ← hp]; exact hk
def Taken (w0 : World) (G : PgG) (recs : List (List (Nat × List UInt8))) (T : TxG) (k : Nat) (e : Ending) (w' : World) : Prop :=
  e = .returned (.tuple #[.int .i64 (k : Int), .int .i64 0]) ∧ St w0 w' { G with tx := some (T.took k) } recs ∧ TxOk G (T.took k)
theorem alloc_st {w0 w : World} {G : PgG} {recs : List (List (Nat × List UInt8))} {T : TxG} (k : Nat) (h : St w0 w G recs) (htx : G.tx = some T) (hok : TxOk G T) (h1 : 1 ≤ k) (h2 : k ≤ G.n) (hu : T.M.used[k]? = some false) (hl : ∀ q, 1 ≤ q → q < k → T.M.used[q]? = some true) :
    Calls Try.prog 22 #[.pointer (some ⟨G.P, 0, none⟩)] w (Taken w0 G recs T k) := by
  refine (alloc_yes G T k w h.rep htx h1 h2 hu hl).mono ?_
  rintro e w' ⟨rfl, hr, ht⟩
  refine ⟨rfl, h.tx htx hr ht rfl rfl rfl, ⟨?_, fun e => nomatch e⟩⟩
  show pput T.f (k : Int) (zeros 512) 0 = none
  rw [pput_other _ _ (by omega)]; exact hok.zero
def PutIn (w0 : World) (G : PgG) (recs : List (List (Nat × List UInt8))) (T : TxG) (k : Nat) (l : List UInt8) (e : Ending) (w' : World) : Prop :=
  e = .returned (.int .i64 0) ∧ St w0 w' { G with tx := some { T with ks := kput T.ks (k : Int), f := pput T.f (k : Int) l } } recs ∧ TxOk G { T with ks := kput T.ks (k : Int), f := pput T.f (k : Int) l }
theorem put_st {tb : TypeId} {w0 w : World} {G : PgG} {recs : List (List (Nat × List UInt8))} {T : TxG} (k : Nat) (A : Option Addr) (c : Nat) (l : List UInt8) (h : St w0 w G recs) (htx : G.tx = some T) (hok : TxOk G T) (h1 : 1 ≤ k) (h2 : k ≤ G.n) (hu : T.M.used[k]? = some true) (hB : Bs tb w A 512 c l) :
    Calls Try.prog 28 #[.pointer (some ⟨G.P, 0, none⟩), .int .i64 (k : Int), .slice A 512 c] w (PutIn w0 G recs T k l) := by
  refine (put_yes G T k A c l w h.rep htx h1 h2 hu hB).mono ?_
  rintro e w' ⟨rfl, hr, ht⟩
  refine ⟨rfl, h.tx htx hr (ht.more (fun _ _ e => .inr (.inr e))) rfl rfl rfl, ⟨?_, hok.same⟩⟩
  show pput T.f (k : Int) l 0 = none
  rw [pput_other _ _ (by omega)]; exact hok.zero
/-- A transaction that was kept, or that did nothing. -/
def Kept0 (w0 : World) (G : PgG) (T : TxG) (w' : World) : Prop :=
  ∃ (D' : DiskG) (J' : LogG) (Q' : PoolG) (ks' : List Int) (f' : Int → Option (List UInt8)) (recs' : List (List (Nat × List UInt8))), St w0 w' { G with D := D', J := J', Q := Q', M := T.M, ks := ks', f := f', tx := none } recs' ∧ D'.L.length = G.D.L.length ∧ J'.seq ≤ G.J.seq + 2 ∧
    (∀ k : Nat, k ≤ G.n → pageOf D' G.B f' k = match T.sealed.f (k : Int) with | some l => l | none => pageOf G.D G.B G.f k) ∧ D'.d = G.D.d ∧ D'.bb = G.D.bb
def Committed (w0 : World) (G : PgG) (recs : List (List (Nat × List UInt8))) (T : TxG) (e : Ending) (w' : World) : Prop :=
  (T.sealed.ks = [] ∧ e = .returned (.int .i64 0) ∧ St w0 w' { G with tx := none } recs) ∨
  (mostM (G.B : Int) < T.sealed.ks.length ∧ e = .returned (.int .i64 40) ∧ St w0 w' { G with tx := none } recs) ∨
  (¬ mostM (G.B : Int) < T.sealed.ks.length ∧ e = .returned (.int .i64 0) ∧ Kept0 w0 G T w')
theorem St.off {w0 w w' : World} {G : PgG} {recs : List (List (Nat × List UInt8))} (h : St w0 w G recs) (hr : PgRep w' { G with tx := none }) (ht : Turned G.own w w') : St w0 w' { G with tx := none } recs := by
  refine ⟨hr, h.hist.off _, fun k hk => ?_, h.turned ht (fun _ e => e)⟩
  rcases own_tx hk with hk | ⟨T2, e, hk⟩
  · exact h.newer k hk
  · cases e
theorem commit_st {w0 w : World} {G : PgG} {recs : List (List (Nat × List UInt8))} {T : TxG} (h : St w0 w G recs) (htx : G.tx = some T) (hok : TxOk G T) (hs : G.J.seq < 4611686018427380000) :
    Calls Try.prog 23 #[.pointer (some ⟨G.P, 0, none⟩)] w (Committed w0 G recs T) := by
  refine (commit_c G T w h.rep htx hs).mono ?_
  rintro e w' (⟨h1, h2, h3, h4⟩ | ⟨h1, h2, h3, h4, h5⟩ | ⟨h1, h2, h3, h4⟩)
  · exact .inl ⟨h1, h2, h.off h3 h4⟩
  · exact .inr (.inl ⟨h2, h3, h.off h4 h5⟩)
  · refine .inr (.inr ⟨h2, h3, ?_⟩)
    obtain ⟨D', J', Q', ks', f', recs', k1, k2, k3, k4, k5, k6, k7, k8, k9⟩ := h.hist.kept hok h4
    exact ⟨D', J', Q', ks', f', recs', ⟨k1, k2, fun g hg => h.newer g (k7 g hg), h.turned k6 (fun _ e => e)⟩, k3, k4, k5, k8, k9⟩
end Go.Proofs.Ytliakkpmmmgmhaa
/- The store with which the statements of the pager begin: it lives. -/
namespace Go.Proofs.Ytliakkpmmmgmhaa
open Go.RowKit

set_option linter.unusedSimpArgs false in
set_option maxRecDepth 100000 in
set_option maxHeartbeats 8000000 in
theorem lives06_c (w : World) : Calls Try.prog 16 #[] w fun e w' => e = .returned (.bool true) ∧ Below w.heap.size w w' := by
  go_enter Try.func16, Try.ntmps16
  go_wp2_with fail
  refine (dnew_c 20 w (by omega) (by omega)).mono ?_
  rintro e w1 ⟨d, bb, B, rfl, hD1, hb1, hd1, hbb1⟩
  have H1 := Lib.hid (And.intro hD1 (And.intro hb1 (And.intro hd1 hbb1)))
  clear hD1 hb1 hd1 hbb1
  go_wp2_with fail
  refine (open_new w d bb B 8 10 2 w1 H1.out.2.1 H1.out.2.2.1 H1.out.2.2.2 H1.out.1 (by omega) (by omega) (by omega) (by omega) (by omega) (by omega)).mono ?_
  rintro e w2 ⟨G, rfl, hS2, hB2, hn2, htx2, hu2, hr2, hs2, hd2, hbb2, hlen2, _⟩
  have hbeg := begin_st hS2 htx2
  have H2 := Lib.hid (And.intro hB2 (And.intro hn2 (And.intro hu2 (And.intro hr2 (And.intro hs2 (And.intro hd2 (And.intro hbb2 hlen2)))))))
  clear hS2 hB2 hn2 htx2 hu2 hr2 hs2 hd2 hbb2 hlen2
  go_wp2_with fail
  refine hbeg.mono ?_
  clear hbeg
  rintro e w3 ⟨rfl, T, hS3, hok3, hu3, hr3, hk3, hf3, ho3⟩
  have hal := alloc_st 1 hS3 rfl ⟨hok3.zero, hok3.same⟩ (by omega) (by show 1 ≤ G.n; rw [H2.out.2.1]; omega) (by rw [hu3, H2.out.2.2.1]; rfl) (fun q h1 h2 => by omega)
  have H3 := Lib.hid (And.intro hu3 (And.intro hr3 (And.intro hk3 (And.intro hf3 hS3.below))))
  clear hS3 hok3 hu3 hr3 hk3 hf3 ho3
  go_wp2_with fail
  refine hal.mono ?_
  clear hal
  rintro e w4 ⟨rfl, hS4, hok4⟩
  have hS4' : St w w4 { G with tx := some (T.took 1) } [] := hS4
  have H4 := Lib.hid (And.intro hS4' hok4)
  clear hS4 hok4 hS4'
  go_wp2_with fail
  refine (lpage_c 120 120 rfl w4).mono ?_
  rintro e w5 ⟨g5, rfl, hB5, hb5, hg5⟩
  have hS5 : St w w5 { G with tx := some (T.took 1) } [] := ⟨H4.out.1.rep.below hb5, H4.out.1.hist, H4.out.1.newer, H4.out.1.below.trans (hb5.mono H4.out.1.below.size)⟩
  have hput := put_st (tb := 5) 1 (some ⟨g5, 0, none⟩) 512 (pageB 120) hS5 rfl ⟨H4.out.2.zero, H4.out.2.same⟩ (by omega) (by show 1 ≤ G.n; rw [H2.out.2.1]; omega) (by show (T.M.used.set 1 true)[1]? = _; rw [H3.out.1, H2.out.2.2.1]; rfl) (blk_bs hB5 (by simp [pageB, maxLen]) (by simp [pageB]))
  clear hB5 hb5 hg5 hS5
  go_wp2_with fail
  refine hput.mono ?_
  clear hput
  rintro e w6 ⟨rfl, hS6, hok6⟩
  have hcm := commit_st hS6 rfl ⟨hok6.zero, hok6.same⟩ (by show G.J.seq < _; rw [H2.out.2.2.2.2.1]; omega)
  clear hS6 hok6
  go_wp2_with fail
  refine hcm.mono ?_
  clear hcm
  intro e w7 hc7
  obtain ⟨T6, hT6⟩ : ∃ T6 : TxG, T6 = { T.took 1 with ks := kput (T.took 1).ks 1, f := pput (T.took 1).f 1 (pageB 120) } := ⟨_, rfl⟩
  have hc8 : Committed w { G with tx := some T6 } [] T6 e w7 := by rw [hT6]; exact hc7
  clear hc7
  have hse : T6.sealed = { T6 with ks := kput T6.ks 0, f := pput T6.f 0 (encB T6.M.used T6.M.root) } := sealed_yes (by rw [hT6]; rfl)
  have hsk : T6.sealed.ks.length = 2 := by
    rw [hse, hT6]
    show (kput (kput (kput T.ks 1) 1) 0).length = 2
    rw [H3.out.2.2.1]; rfl
  have hmost : ¬ mostM (8 : Int) < 2 := by decide
  obtain ⟨rfl, D7, J7, Q7, ks7, f7, recs7, hS7, hl7, hsq7, hpg7, hd7, hbb7⟩ : e = .returned (.int .i64 0) ∧ Kept0 w { G with tx := some T6 } T6 w7 := by
    rcases hc8 with ⟨h1, _⟩ | ⟨h1, _⟩ | ⟨h1, h2, h3⟩
    · rw [h1] at hsk; cases hsk
    · rw [hsk] at h1
      have h1' : mostM (G.B : Int) < ((2 : Nat) : Int) := h1
      rw [H2.out.1] at h1'
      exact absurd h1' hmost
    · exact ⟨h2, h3⟩
  clear hc8 hmost
  have hS7' : St w w7 { G with D := D7, J := J7, Q := Q7, M := T6.M, ks := ks7, f := f7, tx := none } recs7 := hS7
  have hdd7 : D7.d = d := hd7.trans H2.out.2.2.2.2.2.1
  have hdb7 : D7.bb = bb := hbb7.trans H2.out.2.2.2.2.2.2.1
  have hlv7 : D7.Live := hS7'.rep.live
  have hsy7 : D7.sync := hS7'.rep.sync
  have hcr := crash_c D7 0 0 0 w7 hS7'.rep.disk hsy7 hlv7.up
  rw [hdd7] at hcr
  have hp1 : pageOf D7 8 f7 1 = pageB 120 := by
    have h1 := hpg7 1 (by show 1 ≤ G.n; rw [H2.out.2.1]; omega)
    have h2 : pageOf D7 G.B f7 1 = _ := h1
    rw [H2.out.1] at h2
    have hsf : T6.sealed.f ((1 : Nat) : Int) = some (pageB 120) := by
      rw [hse]
      show pput T6.f 0 (encB T6.M.used T6.M.root) 1 = _
      rw [pput_other _ _ (by decide), hT6]
      show pput (T.took 1).f 1 (pageB 120) 1 = _
      rw [pput_same]
    rw [h2, hsf]
  have hu7 : T6.M.used = true.not :: true :: List.replicate 9 false := by
    rw [hT6]
    show T.M.used.set 1 true = _
    rw [H3.out.1, H2.out.2.2.1]; rfl
  have hlen7 : D7.L.length = 20 := hl7.trans H2.out.2.2.2.2.2.2.2
  have H7 := Lib.hid (And.intro hS7' (And.intro hdd7 (And.intro hdb7 (And.intro hlv7 (And.intro hsy7 (And.intro hp1 (And.intro hu7 hlen7)))))))
  clear hse hsk hS7 hl7 hsq7 hpg7 hd7 hbb7 hS7' hdd7 hdb7 hlv7 hsy7 hp1 hu7 hlen7 hT6
  go_wp2_with fail
  refine hcr.mono ?_
  clear hcr
  rintro e w8 ⟨rfl, hD8, hT8⟩
  have hup := up_c D7.crashed w8 hD8
  have hcd : D7.crashed.d = d := H7.out.2.1
  rw [hcd] at hup
  have H8 := Lib.hid (And.intro hD8 hT8)
  clear hD8 hT8 hcd
  go_wp2_with fail
  refine hup.mono ?_
  clear hup
  rintro e w9 ⟨rfl, hD9, hT9⟩
  have hb9 : Below w.heap.size w w9 := by
    have t8 := H8.out.2
    rw [H7.out.2.1, H7.out.2.2.1] at t8
    have t9 : Turned (fun k => k = d) w8 w9 := hT9
    have b8 := below_own H7.out.1.below (fun k hk => by rcases hk with e | e; (rw [e]; exact H1.out.2.2.1); (rw [e]; exact H1.out.2.2.2)) t8
    exact below_own b8 (fun k hk => by rw [hk]; exact H1.out.2.2.1) t9
  obtain ⟨hlv, hsy, hnow⟩ := crashed_up H7.out.2.2.2.1 H7.out.2.2.2.2.1
  have hst := H7.out.1.hist.store H7.out.1.rep
  have hst' : StoreN D7.crashed.up.now 8 10 recs7 J7.seq J7.data T6.M.used T6.M.root := by
    rw [hnow]
    have hst2 : StoreN D7.now G.B G.n recs7 J7.seq J7.data T6.M.used T6.M.root := hst
    rw [H2.out.1, H2.out.2.1] at hst2
    exact hst2
  have hlab : D7.crashed.up.now[0]? = some (labelB 8 10) := by
    rw [hnow]
    have h1 : D7.now[0]? = some (labelB G.B G.n) := H7.out.1.hist.label
    rw [H2.out.1, H2.out.2.1] at h1
    exact h1
  have hop := open_old w D7.crashed.up 8 10 2 recs7 J7.seq J7.data T6.M.used T6.M.root w9 hb9 (by show _ ≤ D7.d; rw [H7.out.2.1]; exact H1.out.2.2.1) (by show _ ≤ D7.bb; rw [H7.out.2.2.1]; exact H1.out.2.2.2) hD9 hlv hsy (by show D7.L.length = _; exact H7.out.2.2.2.2.2.2.2) (by omega) (by omega) (by omega) (by omega) (by omega) (by omega) hst' hlab
  have hcd : D7.crashed.up.d = d := H7.out.2.1
  rw [hcd] at hop
  clear hb9 hlv hsy hst hst' hlab hcd hT9 hD9 H8
  go_wp2_with fail
  refine hop.mono ?_
  clear hop
  rintro e w10 ⟨G', rfl, hSa, hBa, hna, htxa, hua, hra, hsa, hda, hbba, _, hpga⟩
  have hpa : pageOf G'.D 8 G'.f 1 = pageB 120 := by
    rw [hpga 1 (by omega)]
    have h1 := H7.out.2.2.2.2.2.1
    have h2 : f7 = redoF noF recs7.flatten := H7.out.1.hist.f
    rw [← h1, h2]
    show pageN D7.crashed.up.now 8 (redoF noF recs7.flatten) 1 = _
    unfold pageN pageOf
    rw [hnow]
    cases redoF noF recs7.flatten ((1 : Nat) : Int) <;> rfl
  have hpy := page_yes G' 1 w10 hSa.rep (by omega) (by rw [hna]; omega) (by unfold PgG.nowM; rw [htxa]; show G'.M.used[1]? = _; rw [hua, H7.out.2.2.2.2.2.2.1]; rfl)
  have hnp : G'.nowPage 1 = pageB 120 := by unfold PgG.nowPage; rw [htxa]; show pageOf G'.D G'.B G'.f 1 = _; rw [hBa]; exact hpa
  unfold PageDone at hpy
  rw [hnp] at hpy
  have Ha := Lib.hid (And.intro hSa hna)
  clear hSa hBa hna htxa hua hra hsa hda hbba hpga hpa hnp hnow
  go_wp2_with fail
  refine hpy.mono ?_
  clear hpy
  rintro e w11 ⟨v, Q', rfl, ⟨Av, nv, cv, rfl, hBv, _⟩, hRb, hTb, hq1, hq2, hq3⟩
  have hnv : nv = 512 := by rw [← hBv.len]; simp [pageB]
  subst hnv
  have hPgs : ∀ W, Below w11.heap.size w11 W → Calls Try.prog 33 #[.pointer (some ⟨G'.P, 0, none⟩)] W fun e w' => e = .returned (.int .i64 10) ∧ W = w' := fun W hW => by
    have := pages_c { G' with Q := Q' } W (hRb.below hW)
    have hn : ((G'.n : Nat) : Int) = 10 := by rw [Ha.out.2]; rfl
    have h2 : Calls Try.prog 33 #[.pointer (some ⟨G'.P, 0, none⟩)] W fun e w' => e = .returned (.int .i64 ((G'.n : Nat) : Int)) ∧ W = w' := this
    rw [hn] at h2
    exact h2
  obtain ⟨pl, hpl⟩ : ∃ pl, pl = pageB 120 := ⟨_, rfl⟩
  rw [← hpl] at hBv
  have hS0 : Bs 5 w11.drew Av 512 cv pl ∧ Below w11.heap.size w11 w11.drew := ⟨hBv.drew, Turned.below (Turned.refl _ w11).drew⟩
  have cvt : ∀ W, Bs 5 W Av 512 cv pl → (convert 31 9 (.slice Av 512 cv)).run Try.prog W = .ok (.string ⟨pl.toArray⟩) W := fun W h => h.toString Try.underlying31 Try.underlying5 Try.underlying9
  have hlp : ∀ W, Calls Try.prog 29 #[.int .u8 120] W fun e w' => ∃ g, e = .returned (.slice (some ⟨g, 0, none⟩) 512 512) ∧ Bs 5 w' (some ⟨g, 0, none⟩) 512 512 pl ∧ Below W.heap.size W w' := fun W => (lpage_c 120 120 rfl W).mono fun e w' ⟨g, h1, h2, h3, _⟩ => ⟨g, h1, by rw [hpl]; exact blk_bs h2 (by simp [pageB, maxLen]) (by simp [pageB]), h3⟩
  have Hb := Lib.hid (And.intro hPgs (And.intro hlp (And.intro hTb hq1)))
  clear hPgs hlp hpl hRb hTb hq1 hq2 hq3 hBv
  go_wp2_with fail
  go_region_held (fun W => Bs 5 W Av 512 cv pl ∧ Below w11.heap.size w11 W) (first | assumption)
    (first
      | (go_at_call 29
         (refine (Hb.out.2.1 _).mono ?_)
         rintro e w12 ⟨g12, rfl, hB12, hb12⟩
         have hs12 := hB12.toString (P := Try.prog) (src := 31) (dst := 9) Try.underlying31 Try.underlying5 Try.underlying9
         have hS12 : Bs 5 w12 Av 512 cv pl ∧ Below w11.heap.size w11 w12 := ⟨hS0.1.below hb12, hS0.2.trans (hb12.mono hS0.2.size)⟩
         clear hB12 hb12)
      | (go_at_call 33
         (refine (Hb.out.1 _ hS12.2).mono ?_)
         rintro e w13 ⟨rfl, rfl⟩))
  all_goals (
    have HS12 := Lib.hid hS12.2
    clear hS0 hS12 hs12 cvt
    go_wp2_with fail
    go_ret
    have b11 : Below w.heap.size w w11 := Ha.out.1.turned Hb.out.2.2.1 (fun k hk => .inr (.inr (.inr (.inr (.inl hk)))))
    exact ⟨rfl, b11.trans (HS12.out.mono b11.size)⟩)
end Go.Proofs.Ytliakkpmmmgmhaa
/- A transaction that takes k pages is kept, if it may put k and one; else it is refused, and nothing stays: the walk. -/
namespace Go.Proofs.Ytliakkpmmmgmhaa
open Go.RowKit

theorem u64_mod (a : Int) (q : Nat) (h0 : 0 < q) (h1 : q ≤ 1000) : ∃ k : Nat, wrap64 ((IntKind.u64.wrap a).tmod (q : Int)) = k ∧ k < q := by
  have h : 0 ≤ IntKind.u64.wrap a := by
    simp only [IntKind.wrap, IntKind.signed, IntKind.bits]
    simp
    omega
  have h2 : (IntKind.u64.wrap a).tmod (q : Int) = (IntKind.u64.wrap a) % (q : Int) := Int.tmod_eq_emod_of_nonneg h
  have h3 := Int.emod_nonneg (IntKind.u64.wrap a) (b := (q : Int)) (by omega)
  have h4 := Int.emod_lt_of_pos (IntKind.u64.wrap a) (b := (q : Int)) (by omega)
  refine ⟨((IntKind.u64.wrap a) % (q : Int)).toNat, ?_, by omega⟩
  rw [h2]
  unfold wrap64; omega
/-- The tookN where the first j pages are taken. -/
def tookN (j : Nat) : List Bool := (List.range 17).map (fun i => decide (1 ≤ i ∧ i ≤ j))
theorem tookN_at {j i : Nat} (h : i < 17) : (tookN j)[i]? = some (decide (1 ≤ i ∧ i ≤ j)) := by
  unfold tookN
  rw [List.getElem?_map, List.getElem?_range h]; rfl
theorem tookN_zero : tookN 0 = List.replicate (16 + 1) false := by decide
theorem tookN_step {j : Nat} (h : j < 16) : (tookN j).set (j + 1) true = tookN (j + 1) := by
  apply List.ext_getElem?
  intro i
  rw [List.getElem?_set]
  have hl : ∀ j, (tookN j).length = 17 := fun j => by simp [tookN]
  by_cases e : j + 1 = i
  · subst e
    rw [if_pos rfl, if_pos (by rw [hl]; omega), tookN_at (by omega)]
    congr 1
    symm
    exact decide_eq_true ⟨by omega, by omega⟩
  · rw [if_neg e]
    by_cases h17 : i < 17
    · rw [tookN_at h17, tookN_at h17]
      congr 1
      by_cases h1 : 1 ≤ i ∧ i ≤ j
      · rw [decide_eq_true h1, decide_eq_true (by omega)]
      · rw [decide_eq_false h1, decide_eq_false (by omega)]
    · rw [List.getElem?_eq_none (by rw [hl]; omega), List.getElem?_eq_none (by rw [hl]; omega)]
theorem tookN_used : ∀ j, j ≤ 16 → (usedI (tookN j) (16 + 1)).length = j := by decide
/-- j pages have been taken. -/
def MostRel (w : World) (G : PgG) (n : Nat) (i : Value) (wr : World) : Prop :=
  ∃ (j : Nat) (T : TxG), j ≤ n ∧ i = .int .i64 (j : Int) ∧ Hid (St w wr { G with tx := some T } [] ∧ TxOk G T ∧ T.M.used = tookN j ∧ T.ks.length = j ∧ (∀ k ∈ T.ks, 1 ≤ k ∧ k ≤ (j : Int)) ∧ (0 < j → T.own = true))
set_option linter.unusedSimpArgs false in
set_option maxRecDepth 100000 in
set_option maxHeartbeats 8000000 in
theorem pagerMost_walk (a b : Int) (w : World) : Calls Try.prog 7 #[.int .i64 a, .int .i64 b] w fun e w' => e = .returned (.bool true) ∧ Below w.heap.size w w' := by
  obtain ⟨q, hq, hq2⟩ := u64_mod a 12 (by omega) (by omega)
  obtain ⟨m, hm, hm2⟩ := u64_mod b 16 (by omega) (by omega)
  have hq3 : wrap64 ((IntKind.u64.wrap a).tmod 12) = (q : Int) := hq
  have hm3 : wrap64 ((IntKind.u64.wrap b).tmod 16) = (m : Int) := hm
  clear hq hm
  have hq4 : (q : Int) ≤ 11 := by omega
  have hm4 : (m : Int) ≤ 15 := by omega
  obtain ⟨mm, hmm⟩ : ∃ mm, mm = mostM a := ⟨_, rfl⟩
  have hmo := most_c a
  have hrm := refmost_c a
  rw [← hmm] at hmo hrm
  clear hmm
  go_enter Try.func7, Try.ntmps7
  go_wp2_with fail
  refine (lives06_c w).mono ?_
  rintro e w1 ⟨rfl, hb1⟩
  have H1 := Lib.hid hb1
  clear hb1
  go_wp2_with fail
  refine (hmo w1).mono ?_
  rintro e wx ⟨rfl, rfl⟩
  go_wp2_with fail
  refine (hrm w1).mono ?_
  rintro e wx ⟨rfl, rfl⟩
  clear hmo hrm
  go_wp2_with fail
  have e1 : ((2 + (4 + q) + 16 : Nat) : Int) = 4 + (q : Int) + 2 + 16 := by omega
  have e2 : ((4 + q : Nat) : Int) = 4 + (q : Int) := by omega
  have e3 : ((1 + m : Nat) : Int) = 1 + (m : Int) := by omega
  have hnew := dnew_c (2 + (4 + q) + 16) w1 (by omega) (by omega)
  rw [e1] at hnew
  refine hnew.mono ?_
  clear hnew
  rintro e w2 ⟨d, bb, C, rfl, hD2, hb2, hd2, hbb2⟩
  have hop := open_new w d bb C (4 + q) 16 1 w2 (H1.out.trans (hb2.mono H1.out.size)) (Nat.le_trans H1.out.size hd2) (Nat.le_trans H1.out.size hbb2) hD2 (by omega) (by omega) (by omega) (by omega) (by omega) (by omega)
  rw [e2] at hop
  have H2 := Lib.hid (And.intro e2 e3)
  clear e1 e2 e3 hD2 hb2 hd2 hbb2
  go_wp2_with fail
  refine hop.mono ?_
  clear hop
  rintro e w3 ⟨G, rfl, hS3, hB3, hn3, htx3, hu3, hr3, hs3, hd3, hbb3, hlen3, _⟩
  have hbeg := begin_st hS3 htx3
  have H3 := Lib.hid (And.intro hB3 (And.intro hn3 (And.intro hu3 hs3)))
  clear hS3 hB3 hn3 htx3 hu3 hr3 hs3 hd3 hbb3 hlen3
  go_wp2_with fail
  refine hbeg.mono ?_
  clear hbeg
  rintro e w4 ⟨rfl, T, hS4, hok4, hu4, hr4, hk4, hf4, ho4⟩
  have H4 := Lib.hid (And.intro hS4 (And.intro hok4 (And.intro hu4 hk4)))
  clear hS4 hok4 hu4 hr4 hk4 hf4 ho4
  obtain ⟨n, hn⟩ : ∃ n : Nat, n = 1 + m := ⟨_, rfl⟩
  have hn2 : (1 : Int) + (m : Int) = (n : Int) := by omega
  have hn3 : n ≤ 16 := by omega
  have hn4 : (n : Int) ≤ 16 := by omega
  have hn5 : 1 ≤ n := by omega
  rw [hn2]
  have HN := Lib.hid (And.intro hn hn2)
  clear hn hn2 hm3 hq3
  go_wp2_with fail
  go_loopw [55] (fun i wr => MostRel w G n i wr) (fun i _ => n - (intOf i).toNat)
  case atStart => exact ⟨0, T, Nat.zero_le _, rfl, Lib.hid ⟨H4.out.1, H4.out.2.1, by rw [H4.out.2.2.1, H3.out.2.2.1, tookN_zero], by rw [H4.out.2.2.2]; rfl, fun k hk => by rw [H4.out.2.2.2] at hk; simp at hk, fun h => by omega⟩⟩
  case round =>
    obtain ⟨j, T, hj, rfl, HT⟩ := hrel
    by_cases hjn : j < n
    · have hal := alloc_st (j + 1) HT.out.1 rfl ⟨HT.out.2.1.zero, HT.out.2.1.same⟩ (by omega) (by show j + 1 ≤ G.n; rw [H3.out.2.1]; omega) (by rw [HT.out.2.2.1, tookN_at (by omega)]; congr 1; exact decide_eq_false (by omega)) (fun k h1 h2 => by rw [HT.out.2.2.1, tookN_at (by omega)]; congr 1; exact decide_eq_true (by omega))
      have ej : ((j + 1 : Nat) : Int) = (j : Int) + 1 := by omega
      unfold Taken at hal
      rw [ej] at hal
      have HE := Lib.hid ej
      clear ej
      go_wp2_with fail
      refine hal.mono ?_
      clear hal
      rintro e w5 ⟨rfl, hS5, hok5⟩
      have hS5' : St w w5 { G with tx := some (T.took (j + 1)) } [] := hS5
      have H5 := Lib.hid (And.intro hS5' hok5)
      clear hS5 hok5 hS5'
      go_wp2_with fail
      go_roundw
      case rel =>
        obtain ⟨h1, h2, h3, h4, h5, h6⟩ := HT.out
        have hnin : ((j + 1 : Nat) : Int) ∉ T.ks := fun hk => by have := h5 _ hk; omega
        refine ⟨j + 1, T.took (j + 1), by omega, by go_num, Lib.hid ⟨H5.out.1, ⟨H5.out.2.zero, H5.out.2.same⟩, ?_, ?_, ?_, fun _ => rfl⟩⟩
        · show T.M.used.set (j + 1) true = _
          rw [h3, tookN_step (by omega)]
        · show (kput T.ks ((j + 1 : Nat) : Int)).length = _
          unfold kput
          rw [if_neg hnin, List.length_append, h4]; rfl
        · intro k hk
          have hk' : k ∈ kput T.ks ((j + 1 : Nat) : Int) := hk
          unfold kput at hk'
          rw [if_neg hnin, List.mem_append, List.mem_singleton] at hk'
          rcases hk' with hk' | hk'
          · have := h5 k hk'; omega
          · omega
      case measure => simp [intOf]; omega
    · obtain rfl : j = n := by omega
      obtain ⟨h1, h2, h3, h4, h5, h6⟩ := HT.out
      have hcm := commit_st h1 rfl ⟨h2.zero, h2.same⟩ (by show G.J.seq < _; rw [H3.out.2.2.2]; omega)
      have hsk : T.sealed.ks.length = j + 1 := by
        rw [sealed_yes (h6 (by omega))]
        show (kput T.ks 0).length = _
        unfold kput
        rw [if_neg (fun hk => by have := h5 _ hk; omega), List.length_append, h4]; rfl
      have hmo := most_c (4 + (q : Int))
      obtain ⟨mm, hmm⟩ : ∃ mm, mm = mostM (4 + (q : Int)) := ⟨_, rfl⟩
      rw [← hmm] at hmo
      have hBm : mostM (G.B : Int) = mm := by rw [H3.out.1, H2.out.1, hmm]
      have H6 := Lib.hid (And.intro hsk (And.intro hBm (And.intro h3 h1)))
      have HC := Lib.hid hcm
      clear h1 h2 h3 h4 h5 h6 hcm hsk hmm hBm
      by_cases hfine : (j : Int) + 1 ≤ mm
      · have d1 : decide ((j : Int) + 1 ≤ mm) = true := decide_eq_true hfine
        have HF := Lib.hid hfine
        clear hfine
        go_wp2_with fail
        refine (hmo _).mono ?_
        rintro e wx ⟨rfl, rfl⟩
        go_wp2_with fail
        refine HC.out.mono ?_
        intro e w7 hc7
        obtain ⟨rfl, D7, J7, Q7, ks7, f7, recs7, hS7, _, _, _, _, _⟩ : e = .returned (.int .i64 0) ∧ Kept0 w { G with tx := some T } T w7 := by
          rcases hc7 with ⟨h1, _⟩ | ⟨h1, _⟩ | ⟨h1, h2, h3⟩
          · have := H6.out.1; rw [h1] at this; cases this
          · rw [H6.out.1] at h1
            have h1' : mostM (G.B : Int) < ((j + 1 : Nat) : Int) := h1
            rw [H6.out.2.1] at h1'
            have := HF.out; omega
          · exact ⟨h2, h3⟩
        have hus := used_c _ w7 hS7.rep
        have hul : (usedI T.M.used (G.n + 1)).length = j := by rw [H6.out.2.2.1, H3.out.2.1]; exact tookN_used j (by omega)
        have hus' : Calls Try.prog 24 #[.pointer (some ⟨G.P, 0, none⟩)] w7 (UsedDone w7 (usedI T.M.used (G.n + 1))) := hus
        unfold UsedDone at hus'
        rw [hul] at hus'
        have H7 := Lib.hid hS7.below
        clear hc7 hS7 hus hul
        go_wp2_with fail
        refine hus'.mono ?_
        clear hus'
        rintro e w8 ⟨A8, c8, rfl, _, hb8⟩
        have H8 := Lib.hid hb8
        clear hb8
        go_wp2_with fail
        go_ret
        exact ⟨rfl, H7.out.trans (H8.out.mono H7.out.size)⟩
      · have d1 : decide ((j : Int) + 1 ≤ mm) = false := decide_eq_false hfine
        have HF := Lib.hid hfine
        clear hfine
        go_wp2_with fail
        refine (hmo _).mono ?_
        rintro e wx ⟨rfl, rfl⟩
        go_wp2_with fail
        refine HC.out.mono ?_
        intro e w7 hc7
        obtain ⟨rfl, hS7⟩ : e = .returned (.int .i64 40) ∧ St w w7 { G with tx := none } [] := by
          rcases hc7 with ⟨h1, _⟩ | ⟨h1, h2, h3⟩ | ⟨h1, h2, h3⟩
          · have := H6.out.1; rw [h1] at this; cases this
          · exact ⟨h2, h3⟩
          · rw [H6.out.1] at h1
            have h1' : ¬ mostM (G.B : Int) < ((j + 1 : Nat) : Int) := h1
            rw [H6.out.2.1] at h1'
            have := HF.out; omega
        have hus := used_c _ w7 hS7.rep
        have hul : (usedI G.M.used (G.n + 1)).length = 0 := by rw [H3.out.2.2.1, H3.out.2.1]; rfl
        have hus' : Calls Try.prog 24 #[.pointer (some ⟨G.P, 0, none⟩)] w7 (UsedDone w7 (usedI G.M.used (G.n + 1))) := hus
        unfold UsedDone at hus'
        rw [hul] at hus'
        have H7 := Lib.hid hS7
        clear hc7 hS7 hus hul
        go_wp2_with fail
        refine hus'.mono ?_
        clear hus'
        rintro e w8 ⟨A8, c8, rfl, _, hb8⟩
        have hS8 : St w w8 { G with tx := none } [] := ⟨H7.out.rep.below hb8, H7.out.hist, H7.out.newer, H7.out.below.trans (hb8.mono H7.out.below.size)⟩
        have hbeg := begin_st hS8 rfl
        clear hb8 hS8
        go_wp2_with fail
        refine hbeg.mono ?_
        clear hbeg
        rintro e w9 ⟨rfl, T9, hS9, _⟩
        have H9 := Lib.hid hS9.below
        clear hS9
        go_wp2_with fail
        go_ret
        exact ⟨rfl, H9.out⟩
end Go.Proofs.Ytliakkpmmmgmhaa
