/- The walk of PoolLast. -/
import Derived.Test.YtliakkpmmmgmhaaPoolAny
import Derived.Test.YtliakkpmmmgmhaaFits
import Derived.Deep.QuietTactic
import Derived.BigQuiet
namespace Go.Proofs.Ytliakkpmmmgmhaa
open Go.RowKit
/-- What stands at each round. -/
def LInv (w0 : World) (p lb hb : Nat) (w : World) : Prop := ∃ la ha G, LSt w0 p lb hb la ha w G ∧ OkL G la ha
set_option maxRecDepth 100000 in
set_option maxHeartbeats 4000000 in
theorem poolLast_walk (a : Int) (A : Option Addr) (n c : Nat) (z : Nat → OpE) (w : World) (wa : (Lit.int .i64 a).wf = true) (r : RdOps w A n z) :
    Calls Try.prog 5 #[.int .i64 a, .slice A n c] w fun e w' => e = .returned (.bool true) ∧ Below w.heap.size w w' := by
  have ba := bounds_i64 wa
  have HR := Lib.hid r
  clear wa r
  go_enter Try.func5, Try.ntmps5
  go_wp2_with fail
  refine (poolLives_c _).mono ?_
  rintro e w1 ⟨rfl, hb⟩
  have H1 := Lib.hid hb
  clear hb
  go_wp2_with fail
  refine (fits_c A n c z w1 (HR.out.below H1.out)).mono ?_
  rintro e w1' ⟨b, rfl, hfit, hb⟩
  have HF := Lib.hid hfit
  have H1' := Lib.hid (H1.out.trans (hb.mono H1.out.size))
  clear hb hfit H1
  cases b with
  | false =>
    go_wp2_with fail
    refine (poolLives_c _).mono ?_
    rintro e w2 ⟨rfl, hb2⟩
    have H2 := Lib.hid hb2
    clear hb2
    go_wp2
    go_ret
    exact ⟨rfl, H1'.out.trans (H2.out.mono H1'.out.size)⟩
  | true =>
    have hn300 : n ≤ 300 := (HF.out rfl).1
    have HF2 := Lib.hid (HF.out rfl).2
    clear HF
    go_wp2_with fail
    obtain ⟨k0, hk0, hk1⟩ := mod_u64 a 64 (by omega) (by omega)
    have hk : wrap64 (1 + wrap64 ((IntKind.u64.wrap a).tmod 64)) = ((1 + k0 : Nat) : Int) := by
      have h : wrap64 ((IntKind.u64.wrap a).tmod 64) = (k0 : Int) := hk0
      rw [h]; unfold wrap64; omega
    rw [hk]
    clear hk hk0
    obtain ⟨k, hkk⟩ : ∃ k, k = 1 + k0 := ⟨_, rfl⟩
    rw [← hkk]
    refine (new_c k w1' (by omega) (by omega)).mono ?_
    rintro e w2 ⟨p, fb, mb, cap, C, rfl, hP, hB, hp, hf, hm⟩
    have hHb : w.heap.size ≤ w2.heap.size := Nat.le_trans H1'.out.size hB.size
    have HM0 := Lib.hid (And.intro hP (And.intro (H1'.out.trans (hB.mono H1'.out.size)) (And.intro (Nat.le_trans H1'.out.size hp) (And.intro (Nat.le_trans H1'.out.size hf) (Nat.le_trans H1'.out.size hm)))))
    clear hP hB hp hf hm hkk hk1 H1'
    go_wp2_with fail
    have hw0 : (w2.alloc (Obj.cells #[.string ⟨#[]⟩, .string ⟨#[]⟩, .string ⟨#[]⟩, .string ⟨#[]⟩, .string ⟨#[]⟩, .string ⟨#[]⟩, .string ⟨#[]⟩, .string ⟨#[]⟩, .string ⟨#[]⟩, .string ⟨#[]⟩, .string ⟨#[]⟩, .string ⟨#[]⟩, .string ⟨#[]⟩, .string ⟨#[]⟩, .string ⟨#[]⟩, .string ⟨#[]⟩] 38)).heap.size = w2.heap.size + 1 := by simp
    have HL0 : Hid (LInv w p w2.heap.size (w2.heap.size + 1) ((w2.alloc (Obj.cells #[.string ⟨#[]⟩, .string ⟨#[]⟩, .string ⟨#[]⟩, .string ⟨#[]⟩, .string ⟨#[]⟩, .string ⟨#[]⟩, .string ⟨#[]⟩, .string ⟨#[]⟩, .string ⟨#[]⟩, .string ⟨#[]⟩, .string ⟨#[]⟩, .string ⟨#[]⟩, .string ⟨#[]⟩, .string ⟨#[]⟩, .string ⟨#[]⟩, .string ⟨#[]⟩] 38)).alloc (Obj.cells #[.int .i64 0, .int .i64 0, .int .i64 0, .int .i64 0, .int .i64 0, .int .i64 0, .int .i64 0, .int .i64 0, .int .i64 0, .int .i64 0, .int .i64 0, .int .i64 0, .int .i64 0, .int .i64 0, .int .i64 0, .int .i64 0] 39))) := by
      obtain ⟨hP, hB, h1, h2, h3⟩ := HM0.out
      refine ⟨fun _ => [], fun _ => false, _, ⟨(hP.alloc _).alloc _, rfl, h1, h2, h3, hHb, by omega, (hB.alloc hHb _).alloc (by omega) _, ⟨_, (Blk.new _ _ _).alloc _, by rfl, ?_⟩, ⟨#[.int .i64 0, .int .i64 0, .int .i64 0, .int .i64 0, .int .i64 0, .int .i64 0, .int .i64 0, .int .i64 0, .int .i64 0, .int .i64 0, .int .i64 0, .int .i64 0, .int .i64 0, .int .i64 0, .int .i64 0, .int .i64 0], ?_, rfl, ?_⟩⟩, ?_⟩
      · intro i hi; rcases i with _|_|_|_|_|_|_|_|_|_|_|_|_|_|_|_|i <;> first | rfl | omega
      · have := Blk.new (w2.alloc (Obj.cells #[.string ⟨#[]⟩, .string ⟨#[]⟩, .string ⟨#[]⟩, .string ⟨#[]⟩, .string ⟨#[]⟩, .string ⟨#[]⟩, .string ⟨#[]⟩, .string ⟨#[]⟩, .string ⟨#[]⟩, .string ⟨#[]⟩, .string ⟨#[]⟩, .string ⟨#[]⟩, .string ⟨#[]⟩, .string ⟨#[]⟩, .string ⟨#[]⟩, .string ⟨#[]⟩] 38)) 39 #[.int .i64 0, .int .i64 0, .int .i64 0, .int .i64 0, .int .i64 0, .int .i64 0, .int .i64 0, .int .i64 0, .int .i64 0, .int .i64 0, .int .i64 0, .int .i64 0, .int .i64 0, .int .i64 0, .int .i64 0, .int .i64 0]
        rw [hw0] at this
        exact this
      · intro i hi; rcases i with _|_|_|_|_|_|_|_|_|_|_|_|_|_|_|_|i <;> first | rfl | omega
      · intro f hf m _ e
        have := (List.mem_replicate.1 hf).2
        subst this
        have : (-1 : Int) = (m : Int) := e
        omega
    generalize w2.heap.size = lb at *
    clear hw0 HM0
    go_loopw [37] (fun q wr => ∃ q' : Nat, q' ≤ n ∧ q = .int .i64 q' ∧ Hid (LInv w p lb (lb + 1) wr)) (fun q _ => n - (intOf q).toNat)
    case atStart => exact ⟨0, Nat.zero_le _, rfl, HL0⟩
    case round =>
      clear HL0
      obtain ⟨q, hq, rfl, HM⟩ := hrel
      by_cases hqn : q < n
      · obtain ⟨la, ha, G, hL, hO⟩ := HM.out
        obtain ⟨⟨b, o, hA, g0, g1, g2⟩, _⟩ := HR.out.below hL.below q hqn
        have hB0 := (HR.out q hqn).2
        have hsz : (z q).n ≤ 100 := HF2.out q hqn
        generalize z q = e at *
        subst hA
        have hlt : b < wr.heap.size := World.block_lt_of_cell? wr _ g0
        have hbn : b ≠ wr.heap.size := by omega
        obtain ⟨m, hm0, hm16⟩ := mod_u64 e.N 16 (by omega) (by omega)
        have hm : wrap64 ((IntKind.u64.wrap e.N).tmod 16) = (m : Int) := hm0
        clear hm0
        have hm16' : (m : Int) < 16 := by omega
        have hp := hL.at_
        subst hp
        have hS0 : SameOwn G G := ⟨rfl, rfl, rfl⟩
        have L3 := hL.turn (G' := G) (hL.rep.alloc (.cells #[.int .i64 e.K, .int .i64 e.N, .slice e.A e.n e.c] 41)) hS0 ((Turned.refl G.own wr).alloc _)
        have hop := Blk.new wr 41 #[.int .i64 e.K, .int .i64 e.N, .slice e.A e.n e.c]
        have hno : ¬ G.own wr.heap.size := PoolG.own_lt hL.rep (Nat.le_refl _)
        have HH := Lib.hid (And.intro L3 (And.intro hO (And.intro hB0 (And.intro hop hno))))
        clear hL hO hB0 L3 hop hno HM hS0
        by_cases hk0 : (IntKind.u64.wrap e.K).tmod 3 = 0
        · go_wp2_with fail
          rw [hm]
          refine (get_any G m _ HH.out.1.rep).mono ?_
          rintro x w4 ⟨G', hP, hS, hF4, hT, hcase⟩
          have hsame : G'.p = G.p := hS.1
          have L4 := HH.out.1.turn hP hS hT
          have O4 : OkL G' la ha := by
            intro f hf k hk e2
            obtain ⟨g, hg, e3, e4⟩ := hF4 f hf
            rw [e4]; exact HH.out.2.1 g hg k hk (by rw [← e3]; exact e2)
          rcases hcase with ⟨A5, n5, c5, f, rfl, hf, hfp, hb5⟩ | ⟨rfl, hnone⟩
          · obtain ⟨hh, hll⟩ := HH.out.2.1 f hf m hm16 hfp
            have cl : w4.cell? ⟨lb, m, none⟩ = some (.string ⟨f.l.toArray⟩) := by
              obtain ⟨C, hC, _, hC3⟩ := L4.last
              rw [hC.cell, hC3 m hm16, hll]
            have ch : w4.cell? ⟨lb + 1, m, none⟩ = some (.int .i64 1) := by
              obtain ⟨C, hC, _, hC3⟩ := L4.has
              rw [hC.cell, hC3 m hm16, hh]; rfl
            have hstr := fun nn => (hb5.drewN nn).toString (P := Try.prog) (src := 31) (dst := 9) Try.underlying31 Try.underlying5 Try.underlying9
            have HN := Lib.hid (And.intro L4 O4)
            clear L4 O4 hF4 hb5 hP hS hT HH hf hfp hh hll hsame
            go_wp2_with fail
            go_quiet (fail)
            go_wp2_with fail
            go_roundw
            case rel => exact ⟨q + 1, by omega, by go_num, la, ha, G', HN.out.1.drewN _, HN.out.2⟩
            case measure => simp [intOf]; omega
          · have HN := Lib.hid (And.intro L4 O4)
            clear L4 O4 hF4 hP hS hT HH hsame hnone
            go_wp2_with fail
            go_quiet (fail)
            go_wp2_with fail
            go_roundw
            case rel => exact ⟨q + 1, by omega, by go_num, la, ha, G', HN.out.1.drewN _, HN.out.2⟩
            case measure => simp [intOf]; omega
        · by_cases hk1 : (IntKind.u64.wrap e.K).tmod 3 = 1
          · go_wp2_with fail
            rw [hm]
            refine (put_any (tb := e.tb) G m (by omega) e.A e.n e.c e.l _ HH.out.1.rep (fun w' hT => HH.out.2.2.1.below (own_new HH.out.1.below HH.out.1.own1 HH.out.1.own2 HH.out.1.own3 hT)) (by omega)).mono ?_
            rintro x w4 ⟨gone, G', rfl, hP, hS, hT, hF4, hex⟩
            have L4 := HH.out.1.turn hP hS hT
            have hop4 := HH.out.2.2.2.1.turned hT HH.out.2.2.2.2
            have co2 : w4.cell? ⟨wr.heap.size, 2, none⟩ = some (.slice e.A e.n e.c) := hop4.cell 2
            have hstr := (HH.out.2.2.1.below L4.below).toString (P := Try.prog) (src := 31) (dst := 9) Try.underlying31 Try.underlying5 Try.underlying9
            obtain ⟨CL, hCL, hCL2, hCL3⟩ := L4.last
            obtain ⟨CH, hCH, hCH2, hCH3⟩ := L4.has
            have cl := (hCL.cell m).trans (hCL3 m hm16)
            have ch := (hCH.cell m).trans (hCH3 m hm16)
            have fl := hCL.frozen m
            have fh := hCH.frozen m
            have hp4 : G'.p = G.p := hS.1
            have L5 := (L4.set_last m e.l).set_has m true
            rw [if_pos rfl] at L5
            have O5 : OkL G' (fun k => if k = m then e.l else la k) (fun k => if k = m then true else ha k) := by
              intro f hf k hk e2
              obtain ⟨h1, h2⟩ := hF4 f hf
              by_cases e3 : k = m
              · subst e3
                simp [h1 e2]
              · obtain ⟨g, hg, e4, e5⟩ := h2 (by rw [e2]; omega)
                obtain ⟨h3, h4⟩ := HH.out.2.1 g hg k hk (by rw [← e4]; exact e2)
                simp [e3, h3, h4, e5]
            have HN := Lib.hid (And.intro L5 (And.intro O5 (And.intro hex hF4)))
            clear L4 L5 O5 hop4 hCL hCL2 hCL3 hCH hCH2 hCH3 hF4 hex hP hS hT HH
            have hget := get_any G' m _ HN.out.1.rep
            rw [hp4] at hget
            go_wp2_with fail
            refine hget.mono ?_
            clear hget
            rintro x w6 ⟨G6, hP, hS, hF6, hT, hcase⟩
            have L6 := HN.out.1.turn hP hS hT
            have O6 : OkL G6 (fun k => if k = m then e.l else la k) (fun k => if k = m then true else ha k) := by
              intro f hf k hk e2
              obtain ⟨g, hg, e3, e4⟩ := hF6 f hf
              rw [e4]; exact HN.out.2.1 g hg k hk (by rw [← e3]; exact e2)
            rcases hcase with ⟨A5, n5, c5, f, rfl, hf, hfp, hb5⟩ | ⟨rfl, hnone⟩
            · have hfl : f.l = e.l := (HN.out.2.2.2 f hf).1 hfp
              have cl6 : w6.cell? ⟨lb, m, none⟩ = some (.string ⟨e.l.toArray⟩) := by
                obtain ⟨C, hC, _, hC3⟩ := L6.last
                rw [hC.cell, hC3 m hm16]; simp
              rw [hfl] at hb5
              have hstr6 := fun nn => (hb5.drewN nn).toString (P := Try.prog) (src := 31) (dst := 9) Try.underlying31 Try.underlying5 Try.underlying9
              have HM6 := Lib.hid (And.intro L6 O6)
              clear L6 O6 hF6 hb5 hP hS hT HN hf hfp hfl hstr cl ch fl fh co2 hp4
              go_wp2_with fail
              go_quiet (fail)
              go_wp2_with fail
              go_roundw
              case rel => exact ⟨q + 1, by omega, by go_num, _, _, G6, HM6.out.1.drewN _, HM6.out.2⟩
              case measure => simp [intOf]; omega
            · obtain ⟨f, hf, hfp⟩ := HN.out.2.2.1
              exact absurd hfp (hnone f hf)
          · go_wp2_with fail
            rw [hm]
            refine (drop_any G m _ HH.out.1.rep).mono ?_
            rintro x w4 ⟨bd, G', rfl, hP, hS, hT, hF4⟩
            have L4 := HH.out.1.turn hP hS hT
            obtain ⟨CH, hCH, hCH2, hCH3⟩ := L4.has
            have ch := (hCH.cell m).trans (hCH3 m hm16)
            have fh := hCH.frozen m
            have hp4 : G'.p = G.p := hS.1
            have L5 := L4.set_has m false
            simp only [Bool.false_eq_true, if_false] at L5
            have O5 : OkL G' la (fun k => if k = m then false else ha k) := by
              intro f hf k hk e2
              obtain ⟨h1, h2⟩ := hF4 f hf
              have e3 : k ≠ m := by intro e3; subst e3; exact h1 e2
              obtain ⟨g, hg, e4, e5⟩ := h2 (by rw [e2]; omega)
              obtain ⟨h3, h4⟩ := HH.out.2.1 g hg k hk (by rw [← e4]; exact e2)
              simp [e3, h3, h4, e5]
            have HN := Lib.hid (And.intro L5 (And.intro O5 hF4))
            clear L4 L5 O5 hCH hCH2 hCH3 hF4 hP hS hT HH
            have hget := get_any G' m _ HN.out.1.rep
            rw [hp4] at hget
            go_wp2_with fail
            refine hget.mono ?_
            clear hget
            rintro x w6 ⟨G6, hP, hS, hF6, hT, hcase⟩
            have L6 := HN.out.1.turn hP hS hT
            have O6 : OkL G6 la (fun k => if k = m then false else ha k) := by
              intro f hf k hk e2
              obtain ⟨g, hg, e3, e4⟩ := hF6 f hf
              rw [e4]; exact HN.out.2.1 g hg k hk (by rw [← e3]; exact e2)
            rcases hcase with ⟨A5, n5, c5, f, rfl, hf, hfp, hb5⟩ | ⟨rfl, hnone⟩
            · exact absurd hfp (HN.out.2.2 f hf).1
            · have HM6 := Lib.hid (And.intro L6 O6)
              clear L6 O6 hF6 hP hS hT HN ch fh hp4 hnone
              go_wp2_with fail
              go_roundw
              case rel => exact ⟨q + 1, by omega, by go_num, _, _, G6, HM6.out.1, HM6.out.2⟩
              case measure => simp [intOf]; omega
      · go_wp2_with fail
        go_ret
        obtain ⟨la, ha, G, hL, hO⟩ := HM.out
        exact ⟨rfl, hL.below⟩
end Go.Proofs.Ytliakkpmmmgmhaa
