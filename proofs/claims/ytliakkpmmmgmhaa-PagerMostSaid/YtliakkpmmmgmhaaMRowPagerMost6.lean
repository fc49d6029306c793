/- Parts of the proof, put together: Pg7, Pg8, Pga, Pg9, Pgb, Pgc, Pgd, Pge, Pgf, Pgg, Pgh. -/
import Derived.Test.YtliakkpmmmgmhaaMRowPagerMost5
import Derived.RegionTactic
import Derived.ChangeAlike
import Derived.BigRegion
/- An empty store is laid. -/
namespace Go.Proofs.Ytliakkpmmmgmhaa
open Go.RowKit

/-- The blocks of a store that is laid. -/
def layN (N : List (List UInt8)) : Nat → List (List UInt8)
  | 0 => N
  | k + 1 => (layN N k).set (1 + k) (zeros 512)
def laidN (N : List (List UInt8)) (B n : Nat) : List (List UInt8) := ((layN N 2).set (1 + B) (encB (List.replicate (n + 1) false) [])).set 0 (labelB B n)
def LayRel (w1 : World) (D : DiskG) (i : Value) (wr : World) : Prop :=
  ∃ k : Nat, k ≤ 2 ∧ i = .int .i64 (k : Int) ∧ ∃ Dk, Dk.now = layN D.now k ∧ Dk.W.length = k ∧ Hid (DStep w1 wr D Dk)
theorem GivesOwn.page {w w' : World} {l : List UInt8} {e : Ending} (h : GivesOwn w l e w') (hl : l.length = 512) : ∃ A c, e = .returned (.slice A 512 c) ∧ Bs 5 w' A 512 c l ∧ Below w.heap.size w w' := by
  obtain ⟨A, c, he, ho, hb⟩ := h
  rw [hl] at he ho
  exact ⟨A, c, he, Bs.of_own ho, hb⟩
theorem lay_rep {w1 wr w5 w6 : World} {D Dk : DiskG} (h : DStep w1 wr D Dk) (h5 : Below wr.drew.heap.size wr.drew w5) (h6 : Below w5.heap.size w5 w6) : DiskRep w6 Dk := by
  have h1 : DiskRep w5 Dk := h.rep.below ⟨h5.os, h5.tape, h5.output, h5.size, h5.block⟩
  exact h1.below h6
theorem lay_bd {w1 wr w5 w6 : World} {D Dk : DiskG} (h : DStep w1 wr D Dk) (h5 : Below wr.drew.heap.size wr.drew w5) (h6 : Below w5.heap.size w5 w6) : Blk w6 D.d 81 Dk.head := by
  have := (lay_rep h h5 h6).bd; rw [h.d] at this; exact this
theorem lay_bb {w1 wr w5 w6 : World} {D Dk : DiskG} (h : DStep w1 wr D Dk) (h5 : Below wr.drew.heap.size wr.drew w5) (h6 : Below w5.heap.size w5 w6) : Blk w6 D.bb 116 Dk.B := by
  have := (lay_rep h h5 h6).bb; rw [h.bb] at this; exact this
theorem lay_write {w1 wr w5 w6 : World} {D Dk : DiskG} (h : DStep w1 wr D Dk) (h5 : Below wr.drew.heap.size wr.drew w5) (h6 : Below w5.heap.size w5 w6) {A : Option Addr} {c i : Nat} {l : List UInt8} (hB : Bs 5 w6 A 512 c l) (hi : i < Dk.L.length) (hW : Dk.W.length ≤ 1000000) {P : Nat} {t : TypeId} {C : Array Value} (h1 : P ≠ D.d) (h2 : P ≠ D.bb) (hP : Blk w6 P t C) :
    Calls Try.prog 60 #[.pointer (some ⟨D.d, 0, none⟩), .int .i64 (i : Int), .slice A 512 c] w6 fun e w' => e = .returned (.int .i64 0) ∧ ∃ D', DStep w1 w' D D' ∧ D'.now = Dk.now.set i l ∧ D'.W.length = Dk.W.length + 1 ∧ Blk w' P t C := by
  have hr := lay_rep h h5 h6
  have := write_s Dk i A 512 c l w6 hr hB h.live hi rfl hW
  rw [h.d] at this
  refine this.mono ?_
  rintro e w7 ⟨he, D', hst, hn, hw⟩
  have hb : Below wr.heap.size wr w6 := Below.trans (⟨h5.os, h5.tape, h5.output, h5.size, h5.block⟩ : Below wr.heap.size wr w5) (h6.mono h5.size)
  refine ⟨he, D', h.trans (DStep.after hb hst), hn, hw, hP.turned hst.turned ?_⟩
  rw [h.d, h.bb]
  rintro (e | e)
  · exact h1 e
  · exact h2 e
theorem lay_bd0 {w1 wr : World} {D Dk : DiskG} (h : DStep w1 wr D Dk) : Blk wr D.d 81 Dk.head := by have := h.rep.bd; rw [h.d] at this; exact this
theorem lay_bb0 {w1 wr : World} {D Dk : DiskG} (h : DStep w1 wr D Dk) : Blk wr D.bb 116 Dk.B := by have := h.rep.bb; rw [h.bb] at this; exact this
theorem lay_flush {w1 w : World} {D Dk : DiskG} (h : DStep w1 w D Dk) (hW : Dk.W.length ≤ 1000000) {P : Nat} {t : TypeId} {C : Array Value} (h1 : P ≠ D.d) (h2 : P ≠ D.bb) (hP : Blk w P t C) :
    Calls Try.prog 62 #[.pointer (some ⟨D.d, 0, none⟩)] w fun e w' => e = .returned (.int .i64 0) ∧ ∃ D', DStep w1 w' D D' ∧ D'.now = Dk.now ∧ D'.sync ∧ Blk w' P t C := by
  have := flush_s Dk w h.rep h.live hW
  rw [h.d] at this
  refine this.mono ?_
  rintro e w7 ⟨he, D', hst, hn, hs⟩
  refine ⟨he, D', h.trans hst, hn, hs, hP.turned hst.turned ?_⟩
  rw [h.d, h.bb]
  rintro (e | e)
  · exact h1 e
  · exact h2 e
def LayDone (w : World) (D : DiskG) (B n : Nat) (e : Ending) (w' : World) : Prop :=
  e = .returned (.int .i64 0) ∧ ∃ D', DStep w w' D D' ∧ D'.now = laidN D.now B n ∧ D'.sync
set_option linter.unusedSimpArgs false in
set_option maxRecDepth 100000 in
set_option maxHeartbeats 8000000 in
theorem lay_c (P : Nat) (C : Array Value) (D : DiskG) (B n : Nat) (w : World) (hP : Blk w P 89 C) (h0 : C[0]? = some (.pointer (some ⟨D.d, 0, none⟩))) (h3 : C[3]? = some (.int .i64 (B : Int))) (h4 : C[4]? = some (.int .i64 (n : Int))) (hD : DiskRep w D) (hL : D.Live) (hW : D.W = []) (hB4 : 4 ≤ B) (hB : B ≤ 300) (hn : n ≤ 1600) (hfit : 2 + B + n ≤ D.L.length) :
    Calls Try.prog 37 #[.pointer (some ⟨P, 0, none⟩)] w (LayDone w D B n) := by
  obtain ⟨i0, hi, hz, hs, hb⟩ := info_parts infoBo
  have HH := Lib.hid (And.intro hP (And.intro hD (And.intro hL (And.intro hW (And.intro hB (And.intro hn hfit))))))
  have HC := Lib.hid (And.intro h0 (And.intro h3 (And.intro h4 hB4)))
  have HI := Lib.hid (And.intro hi (And.intro hz (And.intro hs hb)))
  have hn1 : (n : Int) ≤ 1600 := by omega
  clear hP h0 h3 h4 hD hL hW hB hn hfit hi hz hs hb hB4
  go_enter Try.func37, Try.ntmps37
  go_wp2_with (
    (refine at_dst 9 rfl ?_)
    (refine wpList_make_bs rfl (.const (.int .i64 512)) (.const (.int .i64 512)) rfl .i64 .i64 512 512 512 rfl rfl rfl rfl (by omega) ?_)
    intro w1 hb1 hbel1 hs1
    have H1 := Lib.hid (And.intro hb1 (And.intro hbel1 hs1))
    clear hb1 hbel1 hs1)
  go_loopw [10] (fun i wr => LayRel w1 D i wr) (fun i _ => 2 - (intOf i).toNat)
  case atStart => exact ⟨0, by omega, rfl, D, rfl, by rw [HH.out.2.2.2.1]; rfl, ⟨HH.out.2.1.below H1.out.2.1, Turned.refl _ _, rfl, rfl, rfl, HH.out.2.2.1⟩⟩
  case round =>
    obtain ⟨k, hk, rfl, Dk, hNk, hWk, HK⟩ := hrel
    have hPr : Blk wr P 89 C := by
      refine (HH.out.1.below H1.out.2.1 HH.out.1.lt).turned HK.out.turned ?_
      rintro (e | e)
      · exact HH.out.1.ne_ HH.out.2.1.bd (by decide) e
      · exact HH.out.1.ne_ HH.out.2.1.bb (by decide) e
    have c0 : wr.cell? ⟨P, 0, none⟩ = some (.pointer (some ⟨D.d, 0, none⟩)) := (hPr.cell 0).trans HC.out.1
    have c3 : wr.cell? ⟨P, 3, none⟩ = some (.int .i64 (B : Int)) := (hPr.cell 3).trans HC.out.2.1
    have c4 : wr.cell? ⟨P, 4, none⟩ = some (.int .i64 (n : Int)) := (hPr.cell 4).trans HC.out.2.2.1
    by_cases hk2 : k < 2
    · have hz8 : Bs 5 wr (some ⟨w.heap.size, 0, none⟩) 512 512 (zeros 512) := by
        have hb0 : Blk w1 w.heap.size 5 (u8s (zeros 512)).toArray := H1.out.1
        refine blk_bs (hb0.turned HK.out.turned ?_) (by rw [zeros_len]; decide) (zeros_len 512).symm
        rintro (e | e)
        · have := HH.out.2.1.bd.lt; omega
        · have := HH.out.2.1.bb.lt; omega
      obtain ⟨i1, hi1⟩ : ∃ i1, i1 = 1 + k := ⟨_, rfl⟩
      have hi1' : (1 : Int) + (k : Int) = (i1 : Int) := by omega
      have hwr := write_s Dk i1 _ 512 512 _ wr HK.out.rep hz8 HK.out.live (by rw [HK.out.len]; have := HH.out.2.2.2.2.2.2; have := HC.out.2.2.2; omega) rfl (by omega)
      rw [HK.out.d] at hwr
      have HX := Lib.hid (And.intro hi1 hPr)
      clear hPr hz8 hi1 c3 c4
      go_wp2_with fail
      refine hwr.mono ?_
      clear hwr
      rintro e w2 ⟨rfl, Dk', hst, hnow, hWl⟩
      go_wp2_with fail
      go_roundw
      case rel => exact ⟨k + 1, by omega, by go_num, Dk', by rw [hnow, hNk, HX.out.1]; rfl, by omega, HK.out.trans hst⟩
      case measure => simp [intOf]; omega
    · obtain rfl : k = 2 := by omega
      obtain ⟨F, hF⟩ : ∃ F, F = 1 + B + 0 := ⟨_, rfl⟩
      obtain ⟨N, hN⟩ : ∃ N, N = n + 1 := ⟨_, rfl⟩
      have hN' : (n : Int) + 1 = (N : Int) := by omega
      have hwN : IntKind.i64.wrap (N : Int) = (N : Int) := i64_small (by omega) (by omega)
      obtain ⟨w5, hmk, hown5, hgr5⟩ := run_make_full (P := Try.prog) (w := wr.drew) wr.drew.heap.size 84 4 i0 (.bool false) 1 Try.underlying84 HI.out.1 HI.out.2.1 HI.out.2.2.1 .i64 .i64 N (by rw [HI.out.2.2.2]; have := HH.out.2.2.2.2.2.1; omega) (by have := HH.out.2.2.2.2.2.1; simp only [maxLen]; omega) (Nat.le_refl _)
      have hbo5 := bools_made hown5 (by have := HH.out.2.2.2.2.2.1; omega)
      have hbel5 : Below wr.drew.heap.size wr.drew w5 := ⟨hgr5.os, hgr5.tape, hgr5.output, hgr5.size, fun k hk => hgr5.block k hk (by simp)⟩
      have H5 := Lib.hid (And.intro hbo5 (And.intro hbel5 hPr))
      have HF := Lib.hid (And.intro hF hN)
      clear hown5 hgr5 hbo5 hbel5 hPr hF hN
      have hP5 : Blk w5 P 89 C := Blk.below (w := wr.drew) H5.out.2.2 H5.out.2.1 H5.out.2.2.lt
      have hS0 : Blk wr.drew P 89 C ∧ wr.drew.cell? ⟨P, 0, none⟩ = some (.pointer (some ⟨D.d, 0, none⟩)) ∧ wr.drew.cell? ⟨P, 4, none⟩ = some (.int .i64 (n : Int)) := ⟨H5.out.2.2, c0, c4⟩
      have hS5 : Blk w5 P 89 C ∧ w5.cell? ⟨P, 0, none⟩ = some (.pointer (some ⟨D.d, 0, none⟩)) ∧ w5.cell? ⟨P, 4, none⟩ = some (.int .i64 (n : Int)) := ⟨hP5, (hP5.cell 0).trans HC.out.1, (hP5.cell 4).trans HC.out.2.2.1⟩
      have henc : Hid (Calls Try.prog 43 #[.agg #[.slice (some ⟨wr.drew.heap.size, 0, none⟩) N N, .slice none 0 0]] w5 (GivesOwn w5 (encB (List.replicate N false) []))) := by
        have := encode_c wr.drew.heap.size N (List.replicate N false) none 0 [] w5 (by rw [List.length_replicate]; exact H5.out.1) (by rw [List.length_replicate]; have := HF.out.2; have := HH.out.2.2.2.2.2.1; omega) (Bs.nil _ _) (by simp)
        rw [List.length_replicate] at this
        exact this
      clear hP5
      go_wp2_with fail
      go_region_held (fun W => Blk W P 89 C ∧ W.cell? ⟨P, 0, none⟩ = some (.pointer (some ⟨D.d, 0, none⟩)) ∧ W.cell? ⟨P, 4, none⟩ = some (.int .i64 (n : Int))) (first | assumption)
        (first
          | (go_at_call 61
             (refine (home_c P B 0 F C _ (by first | exact hS0.1 | exact hS5.1) HC.out.2.1 (by have := HH.out.2.2.2.2.1; omega) (by omega) HF.out.1).mono ?_)
             rintro e w2 ⟨rfl, rfl⟩)
          | (go_at_call 43
             (refine henc.out.mono ?_)
             intro e w6 hg6
             obtain ⟨A6, c6, rfl, hB6, hb6⟩ := hg6.page (encB_len _ _ (by have := numB_ten (n := 0) (by omega); simp only [List.length_nil, List.append_nil]; omega))
             have hS6 : Blk w6 P 89 C ∧ w6.cell? ⟨P, 0, none⟩ = some (.pointer (some ⟨D.d, 0, none⟩)) ∧ w6.cell? ⟨P, 4, none⟩ = some (.int .i64 (n : Int)) := ⟨hS5.1.below hb6 hS5.1.lt, ((hS5.1.below hb6 hS5.1.lt).cell 0).trans HC.out.1, ((hS5.1.below hb6 hS5.1.lt).cell 4).trans HC.out.2.2.1⟩
             have HB6 := Lib.hid (And.intro hB6 hb6)
             clear hB6 hb6 hg6)
          | (go_at_call 60
             (refine (lay_write HK.out H5.out.2.1 HB6.out.2 HB6.out.1 (by have := HF.out.1; have := HH.out.2.2.2.2.2.2; rw [HK.out.len]; omega) (by omega) (hS6.1.ne_ (lay_bd HK.out H5.out.2.1 HB6.out.2) (by decide)) (hS6.1.ne_ (lay_bb HK.out H5.out.2.1 HB6.out.2) (by decide)) hS6.1).mono ?_)
             rintro e w7 ⟨rfl, Dk', hst7, hnow7, hWl7, hP7⟩
             have hS7 : Blk w7 P 89 C ∧ w7.cell? ⟨P, 0, none⟩ = some (.pointer (some ⟨D.d, 0, none⟩)) ∧ w7.cell? ⟨P, 4, none⟩ = some (.int .i64 (n : Int)) := ⟨hP7, (hP7.cell 0).trans HC.out.1, (hP7.cell 4).trans HC.out.2.2.1⟩
             have H7 := Lib.hid (And.intro hst7 (And.intro hnow7 hWl7))
             clear hst7 hnow7 hWl7 hP7))
      all_goals (
        have hfl := lay_flush H7.out.1 (by have := H7.out.2.2; omega) (hS7.1.ne_ (lay_bd0 H7.out.1) (by decide)) (hS7.1.ne_ (lay_bb0 H7.out.1) (by decide)) hS7.1
        have c7 := hS7.2.1
        clear hmk hS0 hS5 hS6 hS7 henc c0 c3 c4
        go_wp2_with fail
        refine hfl.mono ?_
        clear hfl
        rintro e w8 ⟨rfl, D8, hst8, hnow8, hsy8, hP8⟩
        have e0 : w8.cell? ⟨P, 0, none⟩ = some (.pointer (some ⟨D.d, 0, none⟩)) := (hP8.cell 0).trans HC.out.1
        have e3 : w8.cell? ⟨P, 3, none⟩ = some (.int .i64 (B : Int)) := (hP8.cell 3).trans HC.out.2.1
        have e4 : w8.cell? ⟨P, 4, none⟩ = some (.int .i64 (n : Int)) := (hP8.cell 4).trans HC.out.2.2.1
        have hlab := label_c B n (by have := HH.out.2.2.2.2.1; omega) (by have := HH.out.2.2.2.2.2.1; omega) w8.drew
        have hll := labelB_len (B := B) (n := n) (by have := HH.out.2.2.2.2.1; omega) (by have := HH.out.2.2.2.2.2.1; omega)
        have H8 := Lib.hid (And.intro hst8 (And.intro hnow8 (And.intro hsy8 (And.intro hP8 hll))))
        have HLab := Lib.hid hlab
        have hT0 : Blk w8.drew P 89 C ∧ w8.drew.cell? ⟨P, 0, none⟩ = some (.pointer (some ⟨D.d, 0, none⟩)) ∧ w8.drew.cell? ⟨P, 3, none⟩ = some (.int .i64 (B : Int)) ∧ w8.drew.cell? ⟨P, 4, none⟩ = some (.int .i64 (n : Int)) := ⟨hP8, e0, e3, e4⟩
        clear hst8 hnow8 hsy8 hP8 hlab hll c7
        go_wp2_with fail
        go_region_held (fun W => Blk W P 89 C ∧ W.cell? ⟨P, 0, none⟩ = some (.pointer (some ⟨D.d, 0, none⟩)) ∧ W.cell? ⟨P, 3, none⟩ = some (.int .i64 (B : Int)) ∧ W.cell? ⟨P, 4, none⟩ = some (.int .i64 (n : Int))) (first | assumption)
          (first
            | (go_at_call 36
               (refine HLab.out.mono ?_)
               intro e w9 hg9
               obtain ⟨A9, c9, rfl, hB9, hb9⟩ := hg9.page H8.out.2.2.2.2
               have hP9 : Blk w9 P 89 C := Blk.below (w := w8.drew) H8.out.2.2.2.1 hb9 H8.out.2.2.2.1.lt
               have hT9 : Blk w9 P 89 C ∧ w9.cell? ⟨P, 0, none⟩ = some (.pointer (some ⟨D.d, 0, none⟩)) ∧ w9.cell? ⟨P, 3, none⟩ = some (.int .i64 (B : Int)) ∧ w9.cell? ⟨P, 4, none⟩ = some (.int .i64 (n : Int)) := ⟨hP9, (hP9.cell 0).trans HC.out.1, (hP9.cell 3).trans HC.out.2.1, (hP9.cell 4).trans HC.out.2.2.1⟩
               have HB9 := Lib.hid (And.intro hB9 hb9)
               clear hB9 hb9 hg9 hP9)
            | (go_at_call 60
               (refine (lay_write (i := 0) H8.out.1 (Below.refl _ _) HB9.out.2 HB9.out.1 (by have := HH.out.2.2.2.2.2.2; rw [H8.out.1.len]; omega) (by rw [H8.out.2.2.1.1]; exact Nat.zero_le _) (hT9.1.ne_ (lay_bd H8.out.1 (Below.refl _ _) HB9.out.2) (by decide)) (hT9.1.ne_ (lay_bb H8.out.1 (Below.refl _ _) HB9.out.2) (by decide)) hT9.1).mono ?_)
               rintro e w10 ⟨rfl, D10, hst10, hnow10, hWl10, hP10⟩
               have hT10 : Blk w10 P 89 C ∧ w10.cell? ⟨P, 0, none⟩ = some (.pointer (some ⟨D.d, 0, none⟩)) ∧ w10.cell? ⟨P, 3, none⟩ = some (.int .i64 (B : Int)) ∧ w10.cell? ⟨P, 4, none⟩ = some (.int .i64 (n : Int)) := ⟨hP10, (hP10.cell 0).trans HC.out.1, (hP10.cell 3).trans HC.out.2.1, (hP10.cell 4).trans HC.out.2.2.1⟩
               have H10 := Lib.hid (And.intro hst10 (And.intro hnow10 hWl10))
               clear hst10 hnow10 hWl10 hP10))
        have hfl := lay_flush H10.out.1 (by have := H10.out.2.2; rw [H8.out.2.2.1.1] at this; simp at this; omega) (hT10.1.ne_ (lay_bd0 H10.out.1) (by decide)) (hT10.1.ne_ (lay_bb0 H10.out.1) (by decide)) hT10.1
        have c11 := hT10.2.1
        clear hT0 hT9 hT10 e0 e3 e4
        go_wp2_with fail
        refine hfl.mono ?_
        clear hfl
        rintro e w12 ⟨rfl, D12, hst12, hnow12, hsy12, hP12⟩
        go_wp2_with fail
        go_ret
        refine ⟨rfl, D12, DStep.after H1.out.2.1 hst12, ?_, hsy12⟩
        have hF := HF.out.1
        rw [Nat.add_zero] at hF
        rw [hnow12, H10.out.2.1, H8.out.2.1, H7.out.2.1, hNk, hF, HF.out.2]
        rfl)
end Go.Proofs.Ytliakkpmmmgmhaa
/- The journal of a pager is opened. -/
namespace Go.Proofs.Ytliakkpmmmgmhaa
open Go.RowKit

def OpensTo (P : Nat) (C : Array Value) (R : Nat → Value → World → Prop) (e : Ending) (w' : World) : Prop :=
  ∃ lb v, e = .returned (.tuple #[.pointer (some ⟨lb, 0, none⟩), v, .int .i64 0]) ∧ R lb v w' ∧ Blk w' P 89 C
def BeginsTo (P : Nat) (C : Array Value) (R : Nat → Value → World → Prop) (e : Ending) (w' : World) : Prop :=
  ∃ lb v w2, e = .returned (.tuple #[v, .int .i64 0]) ∧ R lb v w2 ∧ Blk w2 P 89 C ∧ w' = w2.setCell ⟨P, 1, none⟩ (.pointer (some ⟨lb, 0, none⟩))
set_option linter.unusedSimpArgs false in
set_option maxRecDepth 100000 in
set_option maxHeartbeats 8000000 in
theorem begin_c (P d B : Nat) (C : Array Value) (R : Nat → Value → World → Prop) (w : World) (hP : Blk w P 89 C) (h0 : C[0]? = some (.pointer (some ⟨d, 0, none⟩))) (h3 : C[3]? = some (.int .i64 (B : Int))) (hC : C.size = 10)
    (ho : Calls Try.prog 63 #[.pointer (some ⟨d, 0, none⟩), .int .i64 1, .int .i64 (B : Int)] w.drew (OpensTo P C R)) :
    Calls Try.prog 38 #[.pointer (some ⟨P, 0, none⟩)] w (BeginsTo P C R) := by
  have c0 : w.cell? ⟨P, 0, none⟩ = some (.pointer (some ⟨d, 0, none⟩)) := (hP.cell 0).trans h0
  have c3 : w.cell? ⟨P, 3, none⟩ = some (.int .i64 (B : Int)) := (hP.cell 3).trans h3
  have hS0 : w.drew.cell? ⟨P, 0, none⟩ = some (.pointer (some ⟨d, 0, none⟩)) ∧ w.drew.cell? ⟨P, 3, none⟩ = some (.int .i64 (B : Int)) := ⟨c0, c3⟩
  have HO := Lib.hid ho
  have HC := Lib.hid (And.intro h0 (And.intro h3 hC))
  clear ho hP h0 h3 hC
  go_enter Try.func38, Try.ntmps38
  go_wp2_with fail
  go_region_held (fun W => W.cell? ⟨P, 0, none⟩ = some (.pointer (some ⟨d, 0, none⟩)) ∧ W.cell? ⟨P, 3, none⟩ = some (.int .i64 (B : Int))) (first | assumption)
    (first
      | (go_at_call 63
         (refine HO.out.mono ?_)
         intro e w2 h2
         obtain ⟨lb, v, rfl, hR, hP2⟩ := h2
         have hS2 : w2.cell? ⟨P, 0, none⟩ = some (.pointer (some ⟨d, 0, none⟩)) ∧ w2.cell? ⟨P, 3, none⟩ = some (.int .i64 (B : Int)) := ⟨(hP2.cell 0).trans HC.out.1, (hP2.cell 3).trans HC.out.2.1⟩
         have H2 := Lib.hid (And.intro hR hP2)
         clear hR hP2))
  obtain ⟨u1, hu1⟩ : ∃ u1, C[1]? = some u1 := ⟨_, Array.getElem?_eq_getElem (by have := HC.out.2.2; omega)⟩
  have c1 : w2.cell? ⟨P, 1, none⟩ = some u1 := (H2.out.2.cell 1).trans hu1
  have f1 := H2.out.2.frozen 1
  clear hS0 hS2 c0 c3
  go_wp2_with fail
  go_ret2
  exact ⟨lb, v, w2, rfl, H2.out.1, H2.out.2, rfl⟩
end Go.Proofs.Ytliakkpmmmgmhaa
/- A journal is opened, whatever it is. -/
namespace Go.Proofs.Ytliakkpmmmgmhaa
open Go.RowKit

/-- What the journal's blocks hold: noughts, or records. -/
def JCase (N : List (List UInt8)) (B : Nat) (recs : List (List UInt8)) (seq : Nat) (data : List UInt8) : Prop :=
  (N[1]? = some (zeros 512) ∧ N[2]? = some (zeros 512) ∧ recs = [] ∧ seq = 1 ∧ data = []) ∨
  (∃ J : LogG, LogDisk N J ∧ J.frm = 1 ∧ J.room = (B - 2) * 512 ∧ J.seq = seq ∧ J.data = data ∧ data = frames recs ∧ data.length ≤ (B - 2) * 512 ∧ seq ≤ 4611686018427387904 ∧ (∀ s ∈ recs, 0 < s.length) ∧ recs.length ≤ 1000000)
/-- A journal that was opened. -/
def OpenedTo (wD : World) (D1 : DiskG) (B : Nat) (recs : List (List UInt8)) (seq : Nat) (data : List UInt8) (lb : Nat) (v : Value) (W : World) : Prop :=
  ∃ D2 J', J'.b = lb ∧ DiskRep W D2 ∧ LogRep W D1.d J' ∧ Turned (fun k => k = D1.d ∨ k = D1.bb) wD W ∧ D2.d = D1.d ∧ D2.bb = D1.bb ∧ D2.L.length = D1.L.length ∧ D2.Live ∧ D2.sync ∧ wD.heap.size ≤ lb ∧ J'.frm = 1 ∧ J'.room = (B - 2) * 512 ∧ J'.seq = seq ∧ J'.data = data ∧ LogDisk D2.now J' ∧ SameOut D1.now D2.now J' ∧ RecsOwn wD.heap.size W v recs
theorem zeros_right (room : Nat) : rightM (zeros 512) room = (0, 0) ∧ RightOk (zeros 512) room := by
  refine ⟨rightM_zero room, zeros_len 512, .inr fun h => ?_⟩
  have h2 := congrArg List.head? h
  have e1 : ((zeros 512).take 24).head? = some 0 := rfl
  rw [e1] at h2
  have e2 : (halfB (lowN (List.take 8 (List.drop 8 (zeros 512)))) (lowN (List.take 8 (List.drop 16 (zeros 512))))).head? = magicL.head? := rfl
  rw [e2] at h2
  exact absurd h2 (by decide)
theorem LogDisk.older {N : List (List UInt8)} {J J' : LogG} (h : LogDisk N J) (h1 : J'.frm = J.frm) (h2 : J'.room = J.room) (h3 : J'.seq = J.seq) (h4 : J'.data = J.data) : LogDisk N J' := by
  refine ⟨by rw [h3]; exact h.pos, by rw [h1, h3, h4]; exact h.head, by rw [h1, h2, h3]; exact h.other, by rw [h1, h4]; exact h.data⟩
theorem LogDisk.best {N : List (List UInt8)} {J : LogG} (h : LogDisk N J) (hr : J.room ≤ 2097152) (hd : J.data.length ≤ J.room) (hs : J.seq ≤ 4611686018427387904) {b0 b1 : List UInt8} (h0 : N[J.frm]? = some b0) (h1 : N[J.frm + 1]? = some b1) :
    RightOk b0 J.room ∧ RightOk b1 J.room ∧ bestK (rightM b0 J.room) (rightM b1 J.room) 2 = (J.seq, J.data.length) := by
  obtain ⟨z, hz, hzl⟩ := h.head
  have hrz := rightM_head J.seq J.data.length J.room z h.pos hs hd (by omega)
  have hokz : RightOk (headB J.seq J.data.length ++ z) J.room := ⟨by rw [List.length_append, headB_len, hzl], .inl (by rw [hrz]; exact h.pos)⟩
  show _ ∧ _ ∧ (if (rightM b0 J.room).1 < (rightM b1 J.room).1 then rightM b1 J.room else rightM b0 J.room) = _
  rcases Nat.mod_two_eq_zero_or_one J.seq with e | e
  · rw [e, Nat.add_zero, h0] at hz
    injection hz with hz; subst hz
    have ho := h.other b1 (by rw [show (J.seq + 1) % 2 = 1 by omega]; exact h1)
    refine ⟨hokz, ho.2, ?_⟩
    rw [if_neg (by rw [hrz]; omega), hrz]
  · rw [e, h1] at hz
    injection hz with hz; subst hz
    have ho := h.other b0 (by rw [show (J.seq + 1) % 2 = 0 by omega]; exact h0)
    refine ⟨ho.2, hokz, ?_⟩
    rw [if_pos (by rw [hrz]; exact ho.1), hrz]
theorem Blk.ofTurned {w w' : World} {P d bb : Nat} {t : TypeId} {C : Array Value} (h : Blk w P t C) (k : Turned (fun k => k = d ∨ k = bb) w w') (h1 : P ≠ d) (h2 : P ≠ bb) : Blk w' P t C := h.turned k (by
  rintro (e | e)
  · exact h1 e
  · exact h2 e)
theorem wopen_to (D1 : DiskG) (P : Nat) (C : Array Value) (B : Nat) (recs : List (List UInt8)) (seq : Nat) (data : List UInt8) (wD : World) (hD : DiskRep wD D1) (hL : D1.Live) (hsy : D1.sync) (hB4 : 4 ≤ B) (hB : B ≤ 300) (hfit : 1 + B ≤ D1.L.length) (hJ : JCase D1.now B recs seq data) (hP : Blk wD P 89 C) (h1 : P ≠ D1.d) (h2 : P ≠ D1.bb) :
    Calls Try.prog 63 #[.pointer (some ⟨D1.d, 0, none⟩), .int .i64 1, .int .i64 (B : Int)] wD (OpensTo P C (OpenedTo wD D1 B recs seq data)) := by
  have hlen := D1.now_len
  obtain ⟨b0, hb0⟩ : ∃ b0, D1.now[1]? = some b0 := ⟨_, List.getElem?_eq_getElem (by omega)⟩
  obtain ⟨b1, hb1⟩ : ∃ b1, D1.now[1 + 1]? = some b1 := ⟨_, List.getElem?_eq_getElem (by omega)⟩
  rcases hJ with ⟨hz0, hz1, rfl, rfl, rfl⟩ | ⟨J, hon, hfrm, hroom, rfl, rfl, hdat, hdl, hs, hpos, hrl⟩
  · rw [hb0] at hz0; injection hz0 with hz0
    rw [hb1] at hz1; injection hz1 with hz1
    subst hz0; subst hz1
    obtain ⟨q1, q2⟩ := zeros_right ((B - 2) * 512)
    have ho : OpenCase D1 1 ((B - 2) * 512) (bestK (rightM (zeros 512) ((B - 2) * 512)) (rightM (zeros 512) ((B - 2) * 512)) 2) none := by
      refine ⟨by rw [q1]; rfl, fun b hb => ?_⟩
      rw [hb0] at hb; injection hb with hb; subst hb
      exact ⟨q1, q2⟩
    refine (wopen_c D1 1 B _ _ none wD hD hL hsy.1 (by omega) hB (by omega) hb0 hb1 q2 q2 ho).mono ?_
    rintro e w' ⟨D', J', he, k1, k2, k3, k4, k5, k6, k7, k8, k9, k10, k11, k12, k13, k14, k15⟩
    exact ⟨J'.b, _, he, ⟨D', J', rfl, k1, k2, k3, k4, k5, k6, k7, k8, k9, k10, k11, k12, k13, k14, k15, RecsOwn.nil _ _⟩, hP.ofTurned k3 h1 h2⟩
  · have hb := hon.best (by rw [hroom]; omega) (by rw [hroom]; exact hdl) hs (b0 := b0) (b1 := b1) (by rw [hfrm]; exact hb0) (by rw [hfrm]; exact hb1)
    rw [hroom] at hb
    have ho : OpenCase D1 1 ((B - 2) * 512) (bestK (rightM b0 ((B - 2) * 512)) (rightM b1 ((B - 2) * 512)) 2) (some (J, recs)) := ⟨hb.2.2, hon, hfrm, hroom, hdl, hs, hdat, hpos, hrl⟩
    refine (wopen_c D1 1 B _ _ (some (J, recs)) wD hD hL hsy.1 (by omega) hB (by omega) hb0 hb1 hb.1 hb.2.1 ho).mono ?_
    rintro e w' ⟨v, J', he, k0, k1, k2, k3, k4, k5, k6, k7, k8⟩
    have hT : Turned (fun k => k = D1.d ∨ k = D1.bb) wD w' := Turned.of_below k3
    exact ⟨J'.b, v, he, ⟨D1, J', rfl, k1, k2, hT, rfl, rfl, rfl, hL, hsy, k4, k5.trans hfrm, k6.trans hroom, k7, k8, hon.older k5 k6 k7 k8, fun _ _ => rfl, k0⟩, hP.ofTurned hT h1 h2⟩
end Go.Proofs.Ytliakkpmmmgmhaa
/- A store is opened. -/
namespace Go.Proofs.Ytliakkpmmmgmhaa
open Go.RowKit

def openC (d p B n ob : Nat) : Array Value := #[.pointer (some ⟨d, 0, none⟩), .pointer none, .pointer (some ⟨p, 0, none⟩), .int .i64 (B : Int), .int .i64 (n : Int), .slice none 0 0, .slice none 0 0, .map (some ob), .pointer none, .bool false]
/-- A page as the blocks and the journal's pages tell it. -/
def pageN (N : List (List UInt8)) (B : Nat) (f : Int → Option (List UInt8)) (k : Nat) : List UInt8 :=
  match f (k : Int) with
  | some l => l
  | none => (N[1 + B + k]?).getD []
def noF : Int → Option (List UInt8) := fun _ => none
/-- The blocks of a store. -/
structure StoreN (N : List (List UInt8)) (B n : Nat) (recs : List (List (Nat × List UInt8))) (seq : Nat) (data : List UInt8) (used : List Bool) (root : List UInt8) : Prop where
  jrn : JCase N B (recs.map recB) seq data
  ok : ∀ L ∈ recs, RecOk n L
  page0 : pageN N B (redoF noF recs.flatten) 0 = encB used root
  ul : used.length = n + 1
  rl : root.length ≤ 64
  few : recs.length ≤ 1000000
def OpenDone (w : World) (D : DiskG) (N : List (List UInt8)) (B n : Nat) (recs : List (List (Nat × List UInt8))) (seq : Nat) (data : List UInt8) (used : List Bool) (root : List UInt8) (e : Ending) (w' : World) : Prop :=
  ∃ G : PgG, e = .returned (.tuple #[.pointer (some ⟨G.P, 0, none⟩), .int .i64 0]) ∧ PgRep w' G ∧ G.B = B ∧ G.n = n ∧ G.tx = none ∧ G.M.used = used ∧ G.M.root = root ∧ G.f = redoF noF recs.flatten ∧ G.D.d = D.d ∧ G.D.bb = D.bb ∧ G.D.L.length = D.L.length ∧ G.J.seq = seq ∧ G.J.data = data ∧ (∀ i, i < 1 ∨ 1 + B ≤ i → G.D.now[i]? = N[i]?) ∧ Turned (fun k => k = D.d ∨ k = D.bb) w w' ∧ w.heap.size ≤ G.P ∧ ∀ k, G.own k → k = D.d ∨ k = D.bb ∨ w.heap.size ≤ k
theorem disk_not8 {w : World} {D : DiskG} (h : DiskRep w D) : ∀ k, (k = D.d ∨ k = D.bb) → Not8 5 w k := by
  rintro k (rfl | rfl)
  · exact h.bd.not8 (by decide)
  · exact h.bb.not8 (by decide)
theorem redoF_append (f : Int → Option (List UInt8)) (L1 L2 : List (Nat × List UInt8)) : redoF f (L1 ++ L2) = redoF (redoF f L1) L2 := List.foldl_append ..
theorem redoK_append (ks : List Int) (L1 L2 : List (Nat × List UInt8)) : redoK ks (L1 ++ L2) = redoK (redoK ks L1) L2 := List.foldl_append ..
theorem flatten_step {α : Type} {L : List (List α)} {k : Nat} {x : List α} (h : L[k]? = some x) : (L.take (k + 1)).flatten = (L.take k).flatten ++ x := by
  rw [List.take_add_one, h]; simp
def OpenLoop (w6 : World) (P : Nat) (C : Array Value) (D2 : DiskG) (Q : PoolG) (B n ob : Nat) (recs : List (List (Nat × List UInt8))) (i : Value) (wr : World) : Prop :=
  ∃ k : Nat, k ≤ recs.length ∧ i = .int .i64 (k : Int) ∧ Hid (PgCore wr P C D2 Q B n ob (redoK [] (recs.take k).flatten) (redoF noF (recs.take k).flatten)) ∧ Hid (Turned (fun x => x = ob) w6 wr)
set_option linter.unusedSimpArgs false in
set_option maxRecDepth 100000 in
set_option maxHeartbeats 8000000 in
theorem open_c (D : DiskG) (B n k : Nat) (w : World) (hD : DiskRep w D) (hL : D.Live) (hsy : D.sync) (hlen : D.L.length = 2 + B + n) (hn1 : 1 ≤ n) (hn2 : n ≤ 1600) (hB4 : 4 ≤ B) (hB3 : B ≤ 300) (hk1 : 1 ≤ k) (hk2 : k ≤ 64) (N : List (List UInt8)) (recs : List (List (Nat × List UInt8))) (seq : Nat) (data : List UInt8) (used : List Bool) (root : List UInt8) (hN : (D.now[0]? = some (labelB B n) ∧ N = D.now) ∨ (D.now[0]? ≠ some (labelB B n) ∧ N = laidN D.now B n)) (hst : StoreN N B n recs seq data used root) :
    Calls Try.prog 20 #[.pointer (some ⟨D.d, 0, none⟩), .int .i64 (B : Int), .int .i64 (k : Int)] w (OpenDone w D N B n recs seq data used root) := by
  have hbl := blocks_c D w hD
  obtain ⟨bl, hbl0⟩ : ∃ bl, bl = D.L.length := ⟨_, rfl⟩
  rw [← hbl0] at hbl
  have hblB : (bl : Int) = 2 + (B : Int) + (n : Int) := by omega
  have hnew := new_c k w hk1 hk2
  have HN := Lib.hid (And.intro hN hst)
  have HH := Lib.hid (And.intro hD (And.intro hL (And.intro hsy (And.intro hlen (And.intro hn1 (And.intro hn2 (And.intro hB4 (And.intro hB3 (And.intro hk1 hk2)))))))))
  have e1 : (bl : Int) - 2 - (B : Int) = (n : Int) := by omega
  have e2 : min (n : Int) 1600 = (n : Int) := by omega
  have e3 : ¬ (B : Int) < 4 := by omega
  have e4 : ¬ (bl : Int) < (B : Int) := by omega
  have e5 : ¬ (n : Int) < 1 := by omega
  have e6 : (bl : Int) ≤ 2000 := by omega
  have e7 : (B : Int) ≤ 300 := by omega
  have d4 : decide ((B : Int) < 4) = false := decide_eq_false e3
  have d5 : decide ((n : Int) < 1) = false := decide_eq_false e5
  have hmm := @run_makeMap Try.prog 82
  clear hD hL hsy hlen hn1 hn2 hB4 hB3 hk1 hk2 hbl0 hblB hN hst
  go_enter Try.func20, Try.ntmps20
  go_wp2_with fail
  refine hbl.mono ?_
  rintro e wx ⟨rfl, rfl⟩
  go_wp2_with fail
  refine hbl.mono ?_
  rintro e wx ⟨rfl, rfl⟩
  clear hbl
  go_wp2_with fail
  refine hnew.mono ?_
  clear hnew
  rintro e w1 ⟨p, fb, mb, cap, C, rfl, hQ, hbel1, hp, hfb, hmb⟩
  have H1 := Lib.hid (And.intro hQ (And.intro hbel1 (And.intro hp (And.intro hfb hmb))))
  clear hQ hbel1 hp hfb hmb
  go_wp2_with fail
  obtain ⟨w2, hw2⟩ : ∃ w2, w2 = (w1.alloc (.map #[] 0)).alloc (.cells (openC D.d p B n w1.heap.size) 89) := ⟨_, rfl⟩
  change Calls _ _ _ ((w1.alloc (.map #[] 0)).alloc (.cells (openC D.d p B n w1.heap.size) 89)) _
  rw [← hw2]
  have hbel2 : Below w1.heap.size w1 w2 := by rw [hw2]; exact ((Below.refl _ _).alloc (Nat.le_refl _) _).alloc (by simp) _
  have hP2 : Blk w2 (w1.heap.size + 1) 89 (openC D.d p B n w1.heap.size) := by
    rw [hw2]
    have := Blk.new (w1.alloc (.map #[] 0)) 89 (openC D.d p B n w1.heap.size)
    simpa using this
  have hO2 : PMap w2 w1.heap.size [] (fun _ => none) := by rw [hw2]; exact (PMap.made w1).alloc _
  have hD2 : DiskRep w2 D := (HH.out.1.below H1.out.2.1).below hbel2
  have hQ2 := H1.out.1.below hbel2
  have hlt : 0 < D.L.length := by have := HH.out.2.2.2.1; omega
  obtain ⟨x, hx⟩ : ∃ x, D.L[0]? = some x := ⟨_, List.getElem?_eq_getElem hlt⟩
  have hxl : x.1.length = 512 := (HH.out.1.row _ _ hx).1
  have hrd := dread_c D 0 w2 hD2
  have H2 := Lib.hid (And.intro hbel2 (And.intro hP2 (And.intro hO2 (And.intro hD2 (And.intro hQ2 (And.intro hx hxl))))))
  clear hw2 hbel2 hP2 hO2 hD2 hQ2 hx hxl hlt
  refine hrd.mono ?_
  clear hrd
  rintro e w3 ⟨hb3, hh3⟩
  have hm0 : hasM D 0 = 0 := by
    unfold hasM
    rw [if_neg (by rw [HH.out.2.1.up]; decide), if_neg (by have := HH.out.2.2.2.1; omega)]
  obtain ⟨v3, x', rfl, hx', hf3⟩ : ∃ v2 x', e = .returned (.tuple #[v2, .int .i64 0]) ∧ D.L[(0 : Int).toNat]? = some x' ∧ Fresh w2 w3 v2 x'.1 := by
    rcases hh3 with ⟨hbad, _⟩ | ⟨_, h⟩
    · exact absurd hm0 hbad
    · exact h
  have hex : x' = x := by
    have := H2.out.2.2.2.2.2.1
    rw [show (0 : Int).toNat = 0 from rfl, this] at hx'
    injection hx' with hx'
    exact hx'.symm
  subst hex
  obtain ⟨A3, n3, c3, rfl, hB3, hfr3⟩ := hf3
  have hn3 : n3 = 512 := by rw [← hB3.len]; exact H2.out.2.2.2.2.2.2
  subst hn3
  have hlab := label_c B n (by have := HH.out.2.2.2.2.2.2.2.1; omega) (by have := HH.out.2.2.2.2.2.1; omega) w3.drew
  have hll := labelB_len (B := B) (n := n) (by have := HH.out.2.2.2.2.2.2.2.1; omega) (by have := HH.out.2.2.2.2.2.1; omega)
  have hS0 : Bs 5 w3.drew A3 512 c3 x'.1 ∧ Below w3.drew.heap.size w3.drew w3.drew := ⟨hB3.drew, Below.refl _ _⟩
  have cv : ∀ W, Bs 5 W A3 512 c3 x'.1 → (convert 31 9 (.slice A3 512 c3)).run Try.prog W = .ok (.string ⟨x'.1.toArray⟩) W := fun W h => h.toString Try.underlying31 Try.underlying5 Try.underlying9
  have H3 := Lib.hid (And.intro hb3 hll)
  have HLab := Lib.hid hlab
  clear hb3 hh3 hx' hB3 hfr3 hm0 hlab hll
  go_wp2_with fail
  go_region_held (fun W => Bs 5 W A3 512 c3 x'.1 ∧ Below w3.drew.heap.size w3.drew W) (first | assumption)
    (first
      | (go_at_call 36
         (refine HLab.out.mono ?_)
         intro e w4 hg4
         obtain ⟨A4, c4, rfl, hB4, hb4⟩ := hg4.page H3.out.2
         have hs4 := hB4.toString (P := Try.prog) (src := 31) (dst := 9) Try.underlying31 Try.underlying5 Try.underlying9
         have hS4 : Bs 5 w4 A3 512 c3 x'.1 ∧ Below w3.drew.heap.size w3.drew w4 := ⟨hS0.1.below hb4, hb4⟩
         clear hB4 hb4 hg4))
  rename_i hHeld
  have hbw : Below w2.heap.size w2 w4 := Below.trans H3.out.1 ((⟨hS4.2.os, hS4.2.tape, hS4.2.output, hS4.2.size, hS4.2.block⟩ : Below w3.heap.size w3 w4).mono H3.out.1.size)
  have hst4 : DStep w2 w4 D D := ⟨H2.out.2.2.2.1.below hbw, Turned.of_below hbw, rfl, rfl, rfl, HH.out.2.1⟩
  have hP4 : Blk w4 (w1.heap.size + 1) 89 (openC D.d p B n w1.heap.size) := H2.out.2.1.below hbw H2.out.2.1.lt
  have hn0 : D.now[0]? = some x'.1 := by unfold DiskG.now; rw [List.getElem?_map, H2.out.2.2.2.2.2.1]; rfl
  have H4 := Lib.hid (And.intro hst4 (And.intro hP4 hn0))
  clear hHeld hS0 hS4 hs4 cv HLab hmm hbw hst4 hP4 hn0
  by_cases hl : x'.1 = labelB B n
  focus (
    have hN1 : N = D.now := by
      rcases HN.out.1 with h | h
      · exact h.2
      · exact absurd (by rw [H4.out.2.2, hl]) h.1
    have hb : (labelB B n == labelB B n) = true := beq_self_eq_true _
    obtain ⟨D1, HX⟩ : ∃ D1, Hid (DStep w2 w4 D D1 ∧ D1.now = N ∧ D1.sync) := ⟨D, Lib.hid ⟨H4.out.1, hN1.symm, HH.out.2.2.1⟩⟩
    rw [hl]
    clear hl hN1
    rw [hb, Bool.not_true]
    clear hb
    go_wp2_with fail
    obtain ⟨wD, hwD⟩ : ∃ x, x = w4 := ⟨_, rfl⟩
    rw [← hwD] at HX ⊢
    clear hwD)
  rotate_left
  focus (
    have hN1 : N = laidN D.now B n := by
      rcases HN.out.1 with h | h
      · exact absurd (by have := h.1; rw [H4.out.2.2] at this; injection this) hl
      · exact h.2
    have hb : (x'.1 == labelB B n) = false := beq_eq_false_iff_ne.2 hl
    have hlay := lay_c (w1.heap.size + 1) (openC D.d p B n w1.heap.size) D B n w4 H4.out.2.1 rfl rfl rfl H4.out.1.rep HH.out.2.1 HH.out.2.2.1.1 HH.out.2.2.2.2.2.2.1 HH.out.2.2.2.2.2.2.2.1 HH.out.2.2.2.2.2.1 (by have := HH.out.2.2.2.1; omega)
    have HXn := Lib.hid hN1
    clear hl hN1
    rw [hb, Bool.not_false]
    clear hb
    go_wp2_with fail
    refine hlay.mono ?_
    clear hlay
    rintro e wD ⟨rfl, D1, hst1, hnow1, hsy1⟩
    have HX := Lib.hid (show DStep w2 wD D D1 ∧ D1.now = N ∧ D1.sync from ⟨H4.out.1.trans hst1, hnow1.trans HXn.out.symm, hsy1⟩)
    clear hst1 hnow1 hsy1 HXn
    go_wp2_with fail)
  all_goals (
    have hPd : w1.heap.size + 1 ≠ D.d := H2.out.2.1.ne_ H2.out.2.2.2.1.bd (by decide)
    have hPb : w1.heap.size + 1 ≠ D.bb := H2.out.2.1.ne_ H2.out.2.2.2.1.bb (by decide)
    have hPD : Blk wD (w1.heap.size + 1) 89 (openC D.d p B n w1.heap.size) := H2.out.2.1.ofTurned HX.out.1.turned hPd hPb
    have hDD : DiskRep wD.drew D1 := HX.out.1.rep.turned (S := fun _ => False) (Turned.refl _ wD).drew id id (fun _ _ _ h => h)
    have hop := wopen_to D1 (w1.heap.size + 1) (openC D.d p B n w1.heap.size) B (recs.map recB) seq data wD.drew hDD HX.out.1.live HX.out.2.2 HH.out.2.2.2.2.2.2.1 HH.out.2.2.2.2.2.2.2.1 (by rw [HX.out.1.len]; have := HH.out.2.2.2.1; omega) (by rw [HX.out.2.1]; exact HN.out.2.jrn) hPD (by rw [HX.out.1.d]; exact hPd) (by rw [HX.out.1.bb]; exact hPb)
    rw [HX.out.1.d] at hop
    have hbg := begin_c (w1.heap.size + 1) D.d B (openC D.d p B n w1.heap.size) _ wD hPD rfl rfl rfl hop
    have H5 := Lib.hid (And.intro hPd (And.intro hPb hPD))
    clear hPd hPb hPD hDD hop
    refine hbg.mono ?_
    clear hbg
    rintro e w6 ⟨lb, v, w5, rfl, ⟨D2, J', rfl, k1, k2, k3, k4, k5, k6, k7, k8, k9, k10, k11, k12, k13, k14, k15, xs, hown, hxs⟩, hP5, hw6⟩
    rw [List.length_map] at hown
    obtain ⟨A5, c5, rfl, _⟩ := own_form hown
    have hT6 : Turned (fun k => k = w1.heap.size + 1) w5 w6 := by rw [hw6]; exact Turned.setCell (S := fun k => k = w1.heap.size + 1) (Turned.refl _ w5) (p := ⟨w1.heap.size + 1, 1, none⟩) (fun _ => rfl) _
    have hP6 : Blk w6 (w1.heap.size + 1) 89 ((openC D.d p B n w1.heap.size).setIfInBounds 1 (.pointer (some ⟨J'.b, 0, none⟩))) := by rw [hw6]; exact hP5.set_ 1 _
    have k3' : Turned (fun k => k = D.d ∨ k = D.bb) wD w5 := by
      rw [HX.out.1.d, HX.out.1.bb] at k3
      exact ⟨k3.os, k3.tape, k3.output, k3.size, k3.block⟩
    have hTd : Turned (fun k => k = D.d ∨ k = D.bb) w2 w5 := HX.out.1.turned.trans k3' (fun _ _ e => e)
    have h8d := disk_not8 H2.out.2.2.2.1
    have hdd : ∀ {g : Nat}, g ≠ D.d → g ≠ D.bb → ¬ (g = D.d ∨ g = D.bb) := fun h1 h2 e => e.elim h1 h2
    have hO5 : PMap w5 w1.heap.size [] noF := PMap.turned (f := noF) H2.out.2.2.1 hTd (hdd (H2.out.2.2.1.ne_blk H2.out.2.2.2.1.bd) (H2.out.2.2.1.ne_blk H2.out.2.2.2.1.bb)) h8d
    have hQ5 := H2.out.2.2.2.2.1.turned hTd (hdd (H2.out.2.2.2.2.1.bp.ne_ H2.out.2.2.2.1.bd (by decide)) (H2.out.2.2.2.2.1.bp.ne_ H2.out.2.2.2.1.bb (by decide))) (hdd (H2.out.2.2.2.2.1.bf.ne_ H2.out.2.2.2.1.bd (by decide)) (H2.out.2.2.2.2.1.bf.ne_ H2.out.2.2.2.1.bb (by decide))) (hdd (H2.out.2.2.2.2.1.bm.ne_blk H2.out.2.2.2.1.bd) (H2.out.2.2.2.2.1.bm.ne_blk H2.out.2.2.2.1.bb)) h8d
    have hfree : ∀ fr ∈ (emptyG p fb mb cap C k).L, fr.page < 0 := fun fr h => by rw [List.eq_of_mem_replicate h]; decide
    have hobm : w1.heap.size ≠ (emptyG p fb mb cap C k).mb := by
      obtain ⟨vm, _⟩ := H1.out.1.bm
      have := H1.out.1.bm.lt
      omega
    have hcore5 : PgCore w5 (w1.heap.size + 1) (openC D.d p B n w1.heap.size) D2 (emptyG p fb mb cap C k) B n w1.heap.size [] noF :=
      { blk := hP5, c0 := (by rw [k4, HX.out.1.d]; rfl), c2 := rfl, c3 := rfl, c4 := rfl, c7 := rfl, disk := k1, pool := hQ5, over := hO5, live := k7, W0 := k8.1, B300 := HH.out.2.2.2.2.2.2.2.1, n1600 := HH.out.2.2.2.2.2.1, fit := (by rw [k6, HX.out.1.len]; have := HH.out.2.2.2.1; omega), frames := fun fr hfr h0 => absurd (hfree fr hfr) (by omega), keys := fun _ _ e => (nomatch e), ne1 := hobm }
    have hcore6 := hcore5.cells hT6 hP6 rfl rfl rfl rfl rfl
    have hlog6 := k2.turned hT6 (k2.blk.ne_ hP5 (by decide)) (fun g (e : g = w1.heap.size + 1) => by subst e; exact hP5.not8 (by decide))
    have hrd6 := (Rd.of_own hown).turned hT6 (fun g (e : g = w1.heap.size + 1) => by subst e; exact hP5.not8 (by decide))
    have hxs6 : ∀ (i : Nat) (L : List (Nat × List UInt8)), recs[i]? = some L → ∃ (A : Option Addr) (c : Nat), xs[i]? = some (Value.slice A (recB L).length c) ∧ Bs 5 w6 A (recB L).length c (recB L) := by
      intro i L hi
      obtain ⟨A, c, h1, h2⟩ := hxs i (recB L) (by rw [List.getElem?_map, hi]; rfl)
      exact ⟨A, c, h1, h2.turned hT6 (fun g (e : g = w1.heap.size + 1) => by subst e; exact hP5.not8 (by decide))⟩
    have hTw6 : Turned (fun k => k = D.d ∨ k = D.bb ∨ k = w1.heap.size + 1) w2 w6 := (hTd.more (fun _ _ e => e.elim .inl (fun e => .inr (.inl e)))).trans hT6 (fun _ _ e => .inr (.inr e))
    have H6 := Lib.hid (And.intro hcore6 (And.intro hlog6 (And.intro hrd6 (And.intro hxs6 (And.intro hTw6 (And.intro hfree hP6))))))
    have H7 := Lib.hid (And.intro k4 (And.intro k5 (And.intro k6 (And.intro k7 (And.intro k8 (And.intro k9 (And.intro k10 (And.intro k11 (And.intro k12 (And.intro k13 (And.intro k14 k15)))))))))))
    clear hw6 hT6 hP6 k3' hTd h8d hdd hO5 hQ5 hfree hobm hcore5 hcore6 hlog6 hrd6 hxs6 hTw6 k1 k2 k3 k4 k5 k6 k7 k8 k9 k10 k11 k12 k13 k14 hown hxs hP5 k15
    go_wp2_with fail
    go_loopw [86] (fun i wr => OpenLoop w6 (w1.heap.size + 1) ((openC D.d p B n w1.heap.size).setIfInBounds 1 (.pointer (some ⟨J'.b, 0, none⟩))) D2 (emptyG p fb mb cap C k) B n w1.heap.size recs i wr) (fun i _ => recs.length - (intOf i).toNat)
    case atStart => exact ⟨0, Nat.zero_le _, rfl, H6.out.1, Turned.refl _ _⟩
    case round =>
      obtain ⟨q, hq, rfl, HC, HT⟩ := hrel
      by_cases hqn : q < recs.length
      · obtain ⟨L, hL⟩ : ∃ L, recs[q]? = some L := ⟨_, List.getElem?_eq_getElem hqn⟩
        obtain ⟨A, c, hx, hb⟩ := H6.out.2.2.2.1 q L hL
        have hrdw := H6.out.2.2.1.turned HT.out (fun g (e : g = w1.heap.size) => by subst e; exact H6.out.1.over.not8)
        obtain ⟨g, o, rfl, hcell⟩ := hrdw.cell hx
        have hbw := hb.turned HT.out (fun g (e : g = w1.heap.size) => by subst e; exact H6.out.1.over.not8)
        have hredo := redo_c _ _ _ _ _ _ _ _ _ L A _ c wr HC.out H6.out.2.2.2.2.2.1 (HN.out.2.ok L (List.mem_of_getElem? hL)) hbw
        have HL := Lib.hid hL
        have hq1 : (q : Int) < (recs.length : Int) := by omega
        have hq9 : (recs.length : Int) ≤ 1000000 := by have := HN.out.2.few; omega
        clear hL hx hb hrdw hbw
        go_wp2_with fail
        refine hredo.mono ?_
        clear hredo
        rintro e w7 ⟨rfl, hc7, ht7⟩
        have H8 := Lib.hid (And.intro hc7 ht7)
        clear hc7 ht7
        go_wp2_with fail
        go_roundw
        case rel =>
          refine ⟨q + 1, by omega, by go_num, ?_, HT.out.trans H8.out.2 (fun _ _ e => e)⟩
          show PgCore _ _ _ _ _ _ _ _ _ _
          rw [flatten_step HL.out, redoK_append, redoF_append]
          exact H8.out.1
        case measure => simp [intOf]; omega
      · obtain rfl : q = recs.length := by omega
        have hnowX : ∀ i, i < 1 ∨ 1 + B ≤ i → D2.now[i]? = N[i]? := by
          obtain ⟨k4, k5, k6, k7, k8, k9, k10, k11, k12, k13, k14, k15⟩ := H7.out
          intro i hi
          rw [k15 i (by rw [k10, k11]; have := HH.out.2.2.2.2.2.2.1; omega), HX.out.2.1]
        have hcw := HC.out
        rw [List.take_length] at hcw
        have hload := load_c _ _ _ _ _ _ _ _ _ used root wr hcw (by
          have := HN.out.2.page0
          unfold pageN at this
          unfold pageOf
          rw [hnowX (1 + B + 0) (by omega)]
          exact this) HN.out.2.ul HN.out.2.rl rfl
        have HNX := Lib.hid (And.intro hnowX hcw)
        clear hnowX hcw
        go_wp2_with fail
        refine hload.mono ?_
        clear hload
        rintro e w8 ⟨rfl, M, Q', hM1, hM2, hMR, hMb, hc8, ht8, q1, q2, q3⟩
        have H8 := Lib.hid (And.intro hM1 (And.intro hM2 (And.intro hMR (And.intro hMb (And.intro hc8 (And.intro ht8 (And.intro q1 (And.intro q2 q3))))))))
        clear hM1 hM2 hMR hMb hc8 ht8 q1 q2 q3
        go_wp2_with fail
        go_ret2
        obtain ⟨k4, k5, k6, k7, k8, k9, k10, k11, k12, k13, k14, k15⟩ := H7.out
        obtain ⟨hM1, hM2, hMR, hMb, hc8, ht8, q1, q2, q3⟩ := H8.out
        have hbw2 : Below w.heap.size w w2 := H1.out.2.1.trans (H2.out.1.mono H1.out.2.1.size)
        have hs1 := H1.out.2.1.size
        have hlog8 : LogRep w8 D2.d J' := by
          rw [k4, HX.out.1.d]
          have hl6 := H6.out.2.1
          rw [HX.out.1.d] at hl6
          refine (hl6.turned HT.out (fun (e : J'.b = w1.heap.size) => H6.out.1.over.ne_blk hl6.blk e.symm) (fun g (e : g = w1.heap.size) => by subst e; exact H6.out.1.over.not8)).turned ht8 ?_ ?_
          · have hlr := hl6.blk.turned HT.out (fun (e : J'.b = w1.heap.size) => H6.out.1.over.ne_blk hl6.blk e.symm)
            rintro ((e | e | e) | e)
            · exact hlr.ne_ HC.out.pool.bp (by decide) e
            · exact hlr.ne_ HC.out.pool.bf (by decide) e
            · exact HC.out.pool.bm.ne_blk hlr e.symm
            · exact hlr.ne_ HC.out.blk (by decide) e
          · rintro g (e | e)
            · exact HC.out.pool.not8 g e
            · subst e; exact HC.out.blk.not8 (by decide)
        have hblk8 := hc8.blk
        refine ⟨{ P := w1.heap.size + 1, D := D2, J := J', Q := Q', B := B, n := n, M := M, ob := w1.heap.size, ks := redoK [] recs.flatten, f := redoF noF recs.flatten, tx := none }, rfl, ?_, rfl, rfl, rfl, hM1, hM2, rfl, k4.trans HX.out.1.d, k5.trans HX.out.1.bb, k6.trans HX.out.1.len, k12, k13, HNX.out.1, ?_, ?_, ?_⟩
        · refine { blk := ?_, disk := hc8.disk, log := hlog8, pool := hc8.pool, mrep := hMR, over := hc8.over, tx := fun T e => (nomatch e), live := k7, sync := k8, on := k14, jfrm := k10, jroom := k11, B4 := HH.out.2.2.2.2.2.2.1, B300 := HH.out.2.2.2.2.2.2.2.1, n1 := HH.out.2.2.2.2.1, n1600 := HH.out.2.2.2.2.2.1, fit := hc8.fit, ul := (by rw [hM1]; exact HN.out.2.ul), frames := hc8.frames, keys := hc8.keys, ne1 := hc8.ne1, txul := fun T e => (nomatch e) }
          have he : ((((openC D.d p B n w1.heap.size).setIfInBounds 1 (.pointer (some ⟨J'.b, 0, none⟩))).setIfInBounds 5 (.slice (some ⟨M.ub, 0, none⟩) M.used.length M.uc)).setIfInBounds 6 (.slice M.rA M.root.length M.rc)) = PgG.head { P := w1.heap.size + 1, D := D2, J := J', Q := Q', B := B, n := n, M := M, ob := w1.heap.size, ks := redoK [] recs.flatten, f := redoF noF recs.flatten, tx := none } := by
            unfold PgG.head
            rw [k4, HX.out.1.d, q1]
            rfl
          rw [← he]
          exact hblk8
        · have hTa : Turned (fun k => k = D.d ∨ k = D.bb) w w2 := Turned.of_below hbw2
          have hTb : Turned (fun k => (k = D.d ∨ k = D.bb) ∨ w.heap.size ≤ k) w2 w8 := by
            have t1 : Turned (fun k => (k = D.d ∨ k = D.bb) ∨ w.heap.size ≤ k) w2 w6 := H6.out.2.2.2.2.1.more (fun g _ e => by
              rcases e with e | e | e
              · exact .inl (.inl e)
              · exact .inl (.inr e)
              · exact .inr (by omega))
            refine (t1.trans HT.out (fun g _ (e : g = w1.heap.size) => .inr (by omega))).trans ht8 (fun g _ e => ?_)
            obtain ⟨_, _, h1, h2, h3⟩ := H1.out
            rcases e with (e | e | e) | e
            · exact .inr (by rw [e]; exact h1)
            · exact .inr (by rw [e]; exact h2)
            · exact .inr (by rw [e]; exact h3)
            · exact .inr (by omega)
          exact hTa.trans hTb (fun g hg e => e.elim id (fun e => absurd e (by omega)))
        · show w.heap.size ≤ w1.heap.size + 1; omega
        · intro g hg
          obtain ⟨_, _, h1, h2, h3⟩ := H1.out
          have s1 := H2.out.1.size
          have s2 := HX.out.1.turned.size
          have s3 := H6.out.2.2.2.2.1.size
          have s4 := HT.out.size
          have sw : w.heap.size ≤ wD.heap.size := by omega
          rcases hg with e | e | e | e | e | e | e | ⟨_, e, _⟩
          · exact .inr (.inr (by rw [e]; show w.heap.size ≤ w1.heap.size + 1; omega))
          · exact .inl (e.trans (k4.trans HX.out.1.d))
          · exact .inr (.inl (e.trans (k5.trans HX.out.1.bb)))
          · refine .inr (.inr ?_)
            have e' : g = J'.b := e
            rw [e']
            have : wD.heap.size ≤ J'.b := k9
            omega
          · refine .inr (.inr ?_)
            have e' : Q'.own g := e
            rcases e' with e' | e' | e'
            · rw [e', q1]; exact h1
            · rw [e', q2]; exact h2
            · rw [e', q3]; exact h3
          · refine .inr (.inr ?_)
            have e' : g = M.ub := e
            rw [e']
            omega
          · refine .inr (.inr ?_)
            have e' : g = w1.heap.size := e
            rw [e']; omega
          · cases e)
end Go.Proofs.Ytliakkpmmmgmhaa
/- A transaction is begun: the parts. -/
namespace Go.Proofs.Ytliakkpmmmgmhaa
open Go.RowKit

def bools (l : List Bool) : List Value := l.map Value.bool
theorem BoolsAt.rd {w : World} {g n c : Nat} {l : List Bool} (h : BoolsAt w g n c l) : Rd 4 1 w (some ⟨g, 0, none⟩) n c (bools l) := by
  obtain ⟨C, hb, hs, hc⟩ := h.blk
  refine ⟨by simp [bools, h.len], h.cap, h.most, .inr ⟨g, 0, C, (0, 0), rfl, hb, fun j u hu => ?_⟩⟩
  unfold bools at hu
  rw [List.getElem?_map] at hu
  cases hl : l[j]? with
  | none => rw [hl] at hu; cases hu
  | some b =>
    rw [hl] at hu
    injection hu with hu; subst hu
    rw [Nat.zero_add]; exact hc j b hl
theorem BoolsAt.of_own {w : World} {base n : Nat} {v : Value} {l : List Bool} (h : w.ownsRow base 4 1 v n (bools l)) (hn : 0 < n) : ∃ g c, v = .slice (some ⟨g, 0, none⟩) n c ∧ BoolsAt w g n c l ∧ base ≤ g := by
  have hl : l.length = n := by have := h.1; simp [bools] at this; exact this
  rcases h.2 with ⟨_, h0⟩ | ⟨g, cap, cur, hv, hb, hg, hnc, hcm, hcs, htk⟩
  · omega
  · refine ⟨g, cap, hv, ⟨⟨cur, hg, by omega, fun i b hi => ?_⟩, hl, hnc, hcm⟩, hb⟩
    have hi' := (List.getElem?_eq_some_iff.1 hi).1
    have h1 : (bools l)[i]? = some (.bool b) := by unfold bools; rw [List.getElem?_map, hi]; rfl
    rw [← htk, List.getElem?_take_of_lt (by omega)] at h1
    simpa using h1
def GivesBools (w : World) (n : Nat) (l : List Bool) (e : Ending) (w' : World) : Prop := ∃ g c, e = .returned (.slice (some ⟨g, 0, none⟩) n c) ∧ BoolsAt w' g n c l ∧ w.heap.size ≤ g ∧ Below w.heap.size w w'
set_option maxHeartbeats 1000000 in
set_option maxRecDepth 100000 in
theorem cloneb_c (g n c : Nat) (l : List Bool) (w : World) (h : BoolsAt w g n c l) (hn : n ≤ 100000) (h0 : 0 < n) :
    Calls Try.prog 42 #[.slice (some ⟨g, 0, none⟩) n c] w (GivesBools w n l) := by
  have HH := Lib.hid (And.intro h (And.intro hn h0))
  clear h hn h0
  have hq := fun W => Lib.run_eql_slice_nil (P := Try.prog) W 84 4 (some ⟨g, 0, none⟩) n c 0 0 Try.underlying84
  obtain ⟨i0, hi, hz, hs, hb⟩ := info_parts infoBo
  have HI := Lib.hid (And.intro hi (And.intro hz (And.intro hs hb)))
  clear hi hz hs hb
  go_enter Try.func42, Try.ntmps42
  go_wp2_with (
    (refine at_dst 7 rfl ?_)
    (refine wpList_append_rd rfl (.tmp 5) (.tmp 6) 84 rfl Try.underlying84 HI.out.1 HI.out.2.1 HI.out.2.2.1 HI.out.2.2.2 rfl (by decide) w.heap.size (.slice (some ⟨w.heap.size, 0, none⟩) 0 0) rfl (World.ownsRow_made w #[] 0 (Nat.le_refl _) (Nat.zero_le _) rfl) rfl (HH.out.1.rd.alloc _) (fun u hu => by unfold bools at hu; obtain ⟨b, _, rfl⟩ := List.mem_map.1 hu; rfl) (by have := HH.out.2.1; simp only [maxLen]; omega) (by have := HH.out.2.1; omega) (by simp) ?_)
    intro v1 w1 hown1 hgr1 hat1)
  go_ret
  obtain ⟨g1, c1, rfl, hB, hg⟩ := BoolsAt.of_own (n := 0 + n) (l := l) (by simpa using hown1) (by have := HH.out.2.2; omega)
  refine ⟨g1, c1, by rw [Nat.zero_add]; rfl, by rw [Nat.zero_add] at hB; exact hB, hg, ?_⟩
  exact ((Below.refl _ _).alloc (Nat.le_refl _) _).grown hgr1 (by simp) (by simp [Value.ownBlock])
/-- Only the pager's own cells are turned, and its transaction. -/
theorem PgRep.turnP {w w' : World} {G : PgG} (h : PgRep w G) (k : Turned (fun x => x = G.P) w w') (tx' : Option TxG) (hb : Blk w' G.P 89 (PgG.head { G with tx := tx' })) (ht : ∀ T, tx' = some T → TxRep w' T)
    (hul : ∀ T, tx' = some T → T.M.used.length = G.n + 1 ∧ T.M.ub ≠ G.M.ub ∧ T.pb ≠ G.ob ∧ T.pb ≠ G.Q.mb ∧ ∀ n l, T.f n = some l → 0 ≤ n ∧ n ≤ G.n ∧ l.length = 512) : PgRep w' { G with tx := tx' } := by
  have h8 : ∀ g, g = G.P → Not8 5 w g := fun g e => by subst e; exact h.blk.not8 (by decide)
  have hub : ¬ G.M.ub = G.P := by obtain ⟨C, hC, _⟩ := h.mrep.used.blk; exact hC.ne_ h.blk (by decide)
  exact { h with blk := hb, disk := h.disk.turned0 h.sync.1 k (h.disk.bd.ne_ h.blk (by decide)) (h.disk.bb.ne_ h.blk (by decide)), log := h.log.turned k (h.log.blk.ne_ h.blk (by decide)) h8, pool := h.pool.turned k (h.pool.bp.ne_ h.blk (by decide)) (h.pool.bf.ne_ h.blk (by decide)) (h.pool.bm.ne_blk h.blk) h8, mrep := h.mrep.turned k hub h8, over := h.over.turned k (h.over.ne_blk h.blk) h8, tx := ht, txul := hul }
end Go.Proofs.Ytliakkpmmmgmhaa
/- What is used now; whether a page can be had. -/
namespace Go.Proofs.Ytliakkpmmmgmhaa
open Go.RowKit

/-- What is used, and the root, as they are now. -/
def PgG.nowM (G : PgG) : MetaG := match G.tx with
  | some T => T.M
  | none => G.M
theorem PgRep.nowRep {w : World} {G : PgG} (h : PgRep w G) : MetaRep w G.nowM := by
  unfold PgG.nowM
  split
  · rename_i T hT; exact (h.tx T hT).mrep
  · exact h.mrep
theorem PgRep.nowLen {w : World} {G : PgG} (h : PgRep w G) : G.nowM.used.length = G.n + 1 := by
  unfold PgG.nowM
  split
  · rename_i T hT; exact (h.txul T hT).1
  · exact h.ul
def NowDone (w : World) (M : MetaG) (e : Ending) (w' : World) : Prop := e = .returned (.agg #[.slice (some ⟨M.ub, 0, none⟩) M.used.length M.uc, .slice M.rA M.root.length M.rc]) ∧ Below w.heap.size w w'
set_option linter.unusedSimpArgs false in
set_option maxRecDepth 100000 in
set_option maxHeartbeats 1000000 in
theorem now_c (G : PgG) (w : World) (h : PgRep w G) : Calls Try.prog 52 #[.pointer (some ⟨G.P, 0, none⟩)] w (NowDone w G.nowM) := by
  have hPlt := h.blk.lt
  have hne : ¬ G.P = w.heap.size := by omega
  have hne' : ¬ w.heap.size = G.P := by omega
  cases htx : G.tx with
  | none =>
    have c8 : w.cell? ⟨G.P, 8, none⟩ = some (.pointer none) := (h.blk.cell 8).trans (by unfold PgG.head; rw [htx]; rfl)
    have c5 : w.cell? ⟨G.P, 5, none⟩ = some (.slice (some ⟨G.M.ub, 0, none⟩) G.M.used.length G.M.uc) := h.blk.cell 5
    have c6 : w.cell? ⟨G.P, 6, none⟩ = some (.slice G.M.rA G.M.root.length G.M.rc) := h.blk.cell 6
    have hn : G.nowM = G.M := by unfold PgG.nowM; rw [htx]
    rw [hn]
    clear h htx hn
    go_enter Try.func52, Try.ntmps52
    go_wp2_with fail
    refine bodyPost_ret (v := .agg #[.slice (some ⟨G.M.ub, 0, none⟩) G.M.used.length G.M.uc, .slice G.M.rA G.M.root.length G.M.rc]) (results_cell_row rfl _ _ w.heap.size 86 _ (0, 0) _ rfl (Blk.new w _ _) Try.underlying86 rfl (by kernel_rfl)) rfl ⟨rfl, (Below.refl _ _).alloc (Nat.le_refl _) _⟩
  | some T =>
    have c8 : w.cell? ⟨G.P, 8, none⟩ = some (.pointer (some ⟨T.b, 0, none⟩)) := (h.blk.cell 8).trans (by unfold PgG.head; rw [htx]; rfl)
    have hT := h.tx T htx
    have c0 : w.cell? ⟨T.b, 0, none⟩ = some (.slice (some ⟨T.M.ub, 0, none⟩) T.M.used.length T.M.uc) := hT.blk.cell 0
    have c1 : w.cell? ⟨T.b, 1, none⟩ = some (.slice T.M.rA T.M.root.length T.M.rc) := hT.blk.cell 1
    have hTlt := hT.blk.lt
    have hne2 : ¬ T.b = w.heap.size := by omega
    have hne2' : ¬ w.heap.size = T.b := by omega
    have hn : G.nowM = T.M := by unfold PgG.nowM; rw [htx]
    rw [hn]
    clear h htx hn hT
    go_enter Try.func52, Try.ntmps52
    go_wp2_with fail
    refine bodyPost_ret (v := .agg #[.slice (some ⟨T.M.ub, 0, none⟩) T.M.used.length T.M.uc, .slice T.M.rA T.M.root.length T.M.rc]) (results_cell_row rfl _ _ w.heap.size 86 _ (0, 0) _ rfl (Blk.new w _ _) Try.underlying86 rfl (by kernel_rfl)) rfl ⟨rfl, (Below.refl _ _).alloc (Nat.le_refl _) _⟩
end Go.Proofs.Ytliakkpmmmgmhaa
/- A transaction is begun. -/
namespace Go.Proofs.Ytliakkpmmmgmhaa
open Go.RowKit

theorem cells2_below {X W : World} {a b : Addr} {u v : Value} (h : X.cell? a = some u ∧ X.cell? b = some v) (k : Below X.heap.size X W) : W.cell? a = some u ∧ W.cell? b = some v :=
  ⟨(k.cell (World.block_lt_of_cell? _ _ h.1)).trans h.1, (k.cell (World.block_lt_of_cell? _ _ h.2)).trans h.2⟩
def BeginDone (w : World) (G : PgG) (e : Ending) (w' : World) : Prop :=
  e = .returned (.int .i64 0) ∧ ∃ T, PgRep w' { G with tx := some T } ∧ T.M.used = G.M.used ∧ T.M.root = G.M.root ∧ T.ks = [] ∧ T.f = noF ∧ T.own = false ∧ Turned (fun k => k = G.P) w w' ∧ w.heap.size ≤ T.b ∧ w.heap.size ≤ T.M.ub ∧ w.heap.size ≤ T.pb
theorem begin_fin {w Wb : World} {G : PgG} (h : PgRep w G) (hb : Below w.heap.size w Wb) {g c mb rc : Nat} {A : Option Addr} (hg : BoolsAt Wb g G.M.used.length c G.M.used) (hg0 : w.heap.size ≤ g) (hr : Bs 5 Wb A G.M.root.length rc G.M.root) (hm : PMap Wb mb [] noF) (hm0 : w.heap.size ≤ mb) :
    BeginDone w G (.returned (.int .i64 0)) ((Wb.alloc (.cells #[.slice (some ⟨g, 0, none⟩) G.M.used.length c, .slice A G.M.root.length rc, .map (some mb), .bool false] 97)).setCell ⟨G.P, 8, none⟩ (.pointer (some ⟨Wb.heap.size, 0, none⟩))) := by
  have hs := hb.size
  have hPlt := h.blk.lt
  have hT : Turned (fun k => k = G.P) w ((Wb.alloc (.cells #[.slice (some ⟨g, 0, none⟩) G.M.used.length c, .slice A G.M.root.length rc, .map (some mb), .bool false] 97)).setCell ⟨G.P, 8, none⟩ (.pointer (some ⟨Wb.heap.size, 0, none⟩))) :=
    Turned.setCell (S := fun k => k = G.P) (Turned.of_below (hb.alloc hs _)) (p := ⟨G.P, 8, none⟩) (fun _ => rfl) _
  obtain ⟨Cg, hCg, _⟩ := hg.blk
  have hglt := hCg.lt
  have hmlt := hm.lt
  have hPb : Blk Wb G.P 89 G.head := h.blk.below hb h.blk.lt
  have hTp : Turned (fun k => k = G.P) Wb ((Wb.alloc (.cells #[.slice (some ⟨g, 0, none⟩) G.M.used.length c, .slice A G.M.root.length rc, .map (some mb), .bool false] 97)).setCell ⟨G.P, 8, none⟩ (.pointer (some ⟨Wb.heap.size, 0, none⟩))) :=
    Turned.setCell (S := fun k => k = G.P) ((Turned.refl _ _).alloc _) (p := ⟨G.P, 8, none⟩) (fun _ => rfl) _
  have h8 : ∀ k, k = G.P → Not8 5 Wb k := fun k e => by subst e; exact hPb.not8 (by decide)
  refine ⟨rfl, { b := Wb.heap.size, M := { ub := g, uc := c, used := G.M.used, rA := A, rc := rc, root := G.M.root }, pb := mb, ks := [], f := noF, own := false }, ?_, rfl, rfl, rfl, rfl, rfl, hT, hs, hg0, hm0⟩
  refine h.turnP hT _ ?_ ?_ ?_
  · have := (hPb.alloc (.cells #[.slice (some ⟨g, 0, none⟩) G.M.used.length c, .slice A G.M.root.length rc, .map (some mb), .bool false] 97)).set_ 8 (.pointer (some ⟨Wb.heap.size, 0, none⟩))
    exact this
  · intro T e; injection e with e; subst e
    refine ⟨?_, ⟨hg.turned hTp (by show ¬ g = G.P; omega), hr.turned hTp h8, h.mrep.rl⟩, hm.turned hTp (by show ¬ mb = G.P; omega) h8⟩
    exact (Blk.new Wb 97 _).far (p := ⟨G.P, 8, none⟩) (by show Wb.heap.size ≠ G.P; omega) _
  · intro T e; injection e with e; subst e
    refine ⟨h.ul, ?_, ?_, ?_, fun n l e => (nomatch e)⟩
    · obtain ⟨C, hC, _⟩ := h.mrep.used.blk
      have := hC.lt
      show g ≠ _; omega
    · have := h.over.lt
      show mb ≠ _; omega
    · have := h.pool.bm.lt
      show mb ≠ _; omega
set_option linter.unusedSimpArgs false in
set_option maxRecDepth 100000 in
set_option maxHeartbeats 8000000 in
theorem begin_tx_c (G : PgG) (w : World) (h : PgRep w G) (htx : G.tx = none) : Calls Try.prog 21 #[.pointer (some ⟨G.P, 0, none⟩)] w (BeginDone w G) := by
  have hbr := pbroken_c G w h
  have c8 : w.cell? ⟨G.P, 8, none⟩ = some (.pointer none) := (h.blk.cell 8).trans (by unfold PgG.head; rw [htx]; rfl)
  have c5 : w.cell? ⟨G.P, 5, none⟩ = some (.slice (some ⟨G.M.ub, 0, none⟩) G.M.used.length G.M.uc) := h.blk.cell 5
  have c6 : w.cell? ⟨G.P, 6, none⟩ = some (.slice G.M.rA G.M.root.length G.M.rc) := h.blk.cell 6
  have HH := Lib.hid (And.intro h htx)
  have hmm := @run_makeMap Try.prog 82
  clear h htx
  go_enter Try.func21, Try.ntmps21
  go_wp2_with fail
  refine hbr.mono ?_
  rintro e wx ⟨rfl, rfl⟩
  clear hbr
  go_wp2_with fail
  have hPlt := HH.out.1.blk.lt
  have HUL := Lib.hid (show G.M.used.length ≤ 100000 ∧ 0 < G.M.used.length ∧ G.M.root.length ≤ 64 from ⟨by rw [HH.out.1.ul]; have := HH.out.1.n1600; omega, by rw [HH.out.1.ul]; omega, HH.out.1.mrep.rl⟩)
  have hS0 : w.drew.cell? ⟨G.P, 5, none⟩ = some (.slice (some ⟨G.M.ub, 0, none⟩) G.M.used.length G.M.uc) ∧ w.drew.cell? ⟨G.P, 6, none⟩ = some (.slice G.M.rA G.M.root.length G.M.rc) := ⟨c5, c6⟩
  have hbA : BoolsAt w.drew G.M.ub G.M.used.length G.M.uc G.M.used := ⟨HH.out.1.mrep.used.blk, HH.out.1.mrep.used.len, HH.out.1.mrep.used.cap, HH.out.1.mrep.used.most⟩
  have HA := Lib.hid (And.intro hbA (HH.out.1.mrep.root.drew))
  clear hbA
  have hSm : (w.drew.alloc (.map #[] 0)).cell? ⟨G.P, 5, none⟩ = some (.slice (some ⟨G.M.ub, 0, none⟩) G.M.used.length G.M.uc) ∧ (w.drew.alloc (.map #[] 0)).cell? ⟨G.P, 6, none⟩ = some (.slice G.M.rA G.M.root.length G.M.rc) := cells2_below hS0 ((Below.refl _ _).alloc (Nat.le_refl _) _)
  have hbd : Below w.heap.size w w.drew := Turned.below (Turned.refl _ w).drew
  have hbm : Below w.heap.size w (w.drew.alloc (.map #[] 0)) := hbd.alloc (Nat.le_refl _) _
  go_region_held (fun W => W.cell? ⟨G.P, 5, none⟩ = some (.slice (some ⟨G.M.ub, 0, none⟩) G.M.used.length G.M.uc) ∧ W.cell? ⟨G.P, 6, none⟩ = some (.slice G.M.rA G.M.root.length G.M.rc)) (first | assumption | exact hSa _ _ | exact hSaa _ _ _ | exact hSo _ | exact hSoo _ _ | go_keep)
    (first
      | (go_at_call 42
         (refine (cloneb_c G.M.ub G.M.used.length G.M.uc G.M.used _ (by first | exact HA.out.1 | exact HA.out.1.below ((Below.refl _ _).alloc (Nat.le_refl _) _)) HUL.out.1 HUL.out.2.1).mono ?_)
         rintro e w3 ⟨g3, c3, rfl, hg3, hgs3, hb3⟩
         have hbw3 : Below w.heap.size w w3 := by first | exact hbd.trans (hb3.mono hbd.size) | exact hbm.trans (hb3.mono hbm.size)
         have hBs3 : Bs 5 w3 G.M.rA G.M.root.length G.M.rc G.M.root := by first | exact HA.out.2.below hb3 | exact (HA.out.2.alloc _).below hb3
         have hS3 : w3.cell? ⟨G.P, 5, none⟩ = some (.slice (some ⟨G.M.ub, 0, none⟩) G.M.used.length G.M.uc) ∧ w3.cell? ⟨G.P, 6, none⟩ = some (.slice G.M.rA G.M.root.length G.M.rc) := by first | exact cells2_below hS0 hb3 | exact cells2_below hSm hb3
         have hS3m : (w3.alloc (.map #[] 0)).cell? ⟨G.P, 5, none⟩ = some (.slice (some ⟨G.M.ub, 0, none⟩) G.M.used.length G.M.uc) ∧ (w3.alloc (.map #[] 0)).cell? ⟨G.P, 6, none⟩ = some (.slice G.M.rA G.M.root.length G.M.rc) := cells2_below hS3 ((Below.refl _ _).alloc (Nat.le_refl _) _)
         have H3 := Lib.hid (And.intro hg3 (And.intro hgs3 (And.intro hb3 (And.intro hbw3 hBs3))))
         clear hg3 hgs3 hb3 hbw3 hBs3)
      | (go_at_call 27
         (refine (clone_c G.M.rA G.M.root.length G.M.rc G.M.root _ (by first | exact H3.out.2.2.2.2 | exact H3.out.2.2.2.2.alloc _) (by have := HUL.out.2.2; omega)).mono ?_)
         rintro e w4 ⟨v4, rfl, ⟨A4, n4, c4, rfl, hr4, hrs4⟩, hb4⟩
         have hn4 : n4 = G.M.root.length := hr4.len.symm
         subst hn4
         have hS4 : w4.cell? ⟨G.P, 5, none⟩ = some (.slice (some ⟨G.M.ub, 0, none⟩) G.M.used.length G.M.uc) ∧ w4.cell? ⟨G.P, 6, none⟩ = some (.slice G.M.rA G.M.root.length G.M.rc) := by first | exact cells2_below hS3 hb4 | exact cells2_below hS3m hb4
         have hbw4 : Below w.heap.size w w4 := by first | exact H3.out.2.2.2.1.trans (hb4.mono H3.out.2.2.2.1.size) | exact (H3.out.2.2.2.1.alloc H3.out.2.2.2.1.size _).trans (hb4.mono (H3.out.2.2.2.1.alloc H3.out.2.2.2.1.size (.map #[] 0)).size)
         have c84 : w4.cell? ⟨G.P, 8, none⟩ = some (.pointer none) := (hbw4.cell hPlt).trans c8
         have f84 : w4.frozen? ⟨G.P, 8, none⟩ = false := (HH.out.1.blk.below hbw4 hPlt).frozen 8
         have hP4 := HH.out.1.blk.below hbw4 hPlt
         have ca : ∀ o, (w4.alloc o).cell? ⟨G.P, 8, none⟩ = some (.pointer none) := fun o => ((hP4.alloc o).cell 8).trans ((hP4.cell 8).symm.trans c84)
         have caa : ∀ o o', ((w4.alloc o).alloc o').cell? ⟨G.P, 8, none⟩ = some (.pointer none) := fun o o' => (((hP4.alloc o).alloc o').cell 8).trans ((hP4.cell 8).symm.trans c84)
         have fa : ∀ o, (w4.alloc o).frozen? ⟨G.P, 8, none⟩ = false := fun o => (hP4.alloc o).frozen 8
         have faa : ∀ o o', ((w4.alloc o).alloc o').frozen? ⟨G.P, 8, none⟩ = false := fun o o' => ((hP4.alloc o).alloc o').frozen 8
         have hSo : ∀ o, (w4.alloc o).cell? ⟨G.P, 5, none⟩ = some (.slice (some ⟨G.M.ub, 0, none⟩) G.M.used.length G.M.uc) ∧ (w4.alloc o).cell? ⟨G.P, 6, none⟩ = some (.slice G.M.rA G.M.root.length G.M.rc) := fun o => cells2_below hS4 ((Below.refl _ _).alloc (Nat.le_refl _) _)
         have hSoo : ∀ o o', ((w4.alloc o).alloc o').cell? ⟨G.P, 5, none⟩ = some (.slice (some ⟨G.M.ub, 0, none⟩) G.M.used.length G.M.uc) ∧ ((w4.alloc o).alloc o').cell? ⟨G.P, 6, none⟩ = some (.slice G.M.rA G.M.root.length G.M.rc) := fun o o' => cells2_below (hSo o) ((Below.refl _ _).alloc (Nat.le_refl _) _)
         have hSa : ∀ o u, ((w4.alloc o).setCell ⟨G.P, 8, none⟩ u).cell? ⟨G.P, 5, none⟩ = some (.slice (some ⟨G.M.ub, 0, none⟩) G.M.used.length G.M.uc) ∧ ((w4.alloc o).setCell ⟨G.P, 8, none⟩ u).cell? ⟨G.P, 6, none⟩ = some (.slice G.M.rA G.M.root.length G.M.rc) := fun o u => ⟨((hP4.alloc o).set_ 8 u).cell 5, ((hP4.alloc o).set_ 8 u).cell 6⟩
         have hSaa : ∀ o o' u, (((w4.alloc o).alloc o').setCell ⟨G.P, 8, none⟩ u).cell? ⟨G.P, 5, none⟩ = some (.slice (some ⟨G.M.ub, 0, none⟩) G.M.used.length G.M.uc) ∧ (((w4.alloc o).alloc o').setCell ⟨G.P, 8, none⟩ u).cell? ⟨G.P, 6, none⟩ = some (.slice G.M.rA G.M.root.length G.M.rc) := fun o o' u => ⟨(((hP4.alloc o).alloc o').set_ 8 u).cell 5, (((hP4.alloc o).alloc o').set_ 8 u).cell 6⟩
         clear hP4 c84 f84
         have H4 := Lib.hid (And.intro hr4 (And.intro hb4 hbw4))
         clear hr4 hrs4 hb4 hbw4))
  all_goals (
    clear ca caa fa faa hSo hSoo hSa hSaa hS4 hS3 hS3m hS0 hSm
    go_wp2_with fail
    go_ret
    first
      | exact begin_fin HH.out.1 H4.out.2.2 ((H3.out.1).below H4.out.2.1) (Nat.le_trans (by first | exact hbd.size | exact hbm.size) H3.out.2.1) H4.out.1 ((((PMap.made w.drew).below H3.out.2.2.1)).below H4.out.2.1) (Nat.le_refl _)
      | exact begin_fin HH.out.1 H4.out.2.2 (((H3.out.1).below ((Below.refl _ _).alloc (Nat.le_refl _) _)).below H4.out.2.1) (Nat.le_trans (by first | exact hbd.size | exact hbm.size) H3.out.2.1) H4.out.1 ((PMap.made w3).below H4.out.2.1) H3.out.2.2.2.1.size
      | (have e5 : (w4.alloc (.map #[] 0)).heap.size = w4.heap.size + 1 := by simp
         have hfin := begin_fin HH.out.1 (H4.out.2.2.alloc H4.out.2.2.size (.map #[] 0)) (((H3.out.1).below H4.out.2.1).below ((Below.refl _ _).alloc (Nat.le_refl _) _)) (Nat.le_trans (by first | exact hbd.size | exact hbm.size) H3.out.2.1) (H4.out.1.alloc _) (PMap.made w4) H4.out.2.2.size
         rw [e5] at hfin
         exact hfin))
end Go.Proofs.Ytliakkpmmmgmhaa
/- Whether a page can be had. -/
namespace Go.Proofs.Ytliakkpmmmgmhaa
open Go.RowKit

def hasP (G : PgG) (k : Int) : Int := if k < 1 ∨ (G.n : Int) < k then 2 else if G.nowM.used[k.toNat]? = some true then 0 else 2
def HasDone (w : World) (G : PgG) (k : Int) (e : Ending) (w' : World) : Prop := e = .returned (.int .i64 (hasP G k)) ∧ Below w.heap.size w w'
set_option linter.unusedSimpArgs false in
set_option maxRecDepth 100000 in
set_option maxHeartbeats 4000000 in
theorem has_c (G : PgG) (k : Int) (w : World) (h : PgRep w G) : Calls Try.prog 56 #[.pointer (some ⟨G.P, 0, none⟩), .int .i64 k] w (HasDone w G k) := by
  have hbr := pbroken_c G w h
  have hnow := now_c G w h
  have c4 : w.cell? ⟨G.P, 4, none⟩ = some (.int .i64 (G.n : Int)) := h.blk.cell 4
  have HH := Lib.hid h
  have hlen := h.nowLen
  clear h
  obtain ⟨M, hM⟩ : ∃ M, M = G.nowM := ⟨_, rfl⟩
  have HB : Hid (BoolsAt w M.ub M.used.length M.uc M.used) := by rw [hM]; exact HH.out.nowRep.used
  rw [← hM] at hnow hlen
  obtain ⟨ul, hul⟩ : ∃ ul, ul = M.used.length := ⟨_, rfl⟩
  have hl2 : (ul : Int) = (G.n : Int) + 1 := by omega
  unfold NowDone at hnow
  rw [← hul] at hnow HB
  have HM := Lib.hid (And.intro hM hul)
  have hR : hasP G k = if k < 1 ∨ (G.n : Int) < k then 2 else if M.used[k.toNat]? = some true then 0 else 2 := by rw [hM]; rfl
  have HR := Lib.hid hR
  clear hM hul hR hlen
  by_cases hk1 : k < 1
  · have d1 : decide (k < 1) = true := decide_eq_true hk1
    go_enter Try.func56, Try.ntmps56
    go_wp2_with fail
    refine hbr.mono ?_
    rintro e wx ⟨rfl, rfl⟩
    clear hbr hnow
    go_wp2_with fail
    go_ret
    exact ⟨by rw [HR.out, if_pos (.inl hk1)]; rfl, Below.refl _ _⟩
  · have d1 : decide (k < 1) = false := decide_eq_false hk1
    by_cases hk2 : (G.n : Int) < k
    · have d2 : decide ((G.n : Int) < k) = true := decide_eq_true hk2
      go_enter Try.func56, Try.ntmps56
      go_wp2_with fail
      refine hbr.mono ?_
      rintro e wx ⟨rfl, rfl⟩
      clear hbr hnow
      go_wp2_with fail
      go_ret
      exact ⟨by rw [HR.out, if_pos (.inr hk2)]; rfl, Below.refl _ _⟩
    · have d2 : decide ((G.n : Int) < k) = false := decide_eq_false hk2
      obtain ⟨q, rfl⟩ : ∃ q : Nat, k = (q : Int) := ⟨k.toNat, by omega⟩
      obtain ⟨b, hb⟩ : ∃ b, M.used[q]? = some b := ⟨_, List.getElem?_eq_getElem (by have := HM.out.2; omega)⟩
      have hk3 : (q : Int) < (ul : Int) := by omega
      have d3 : decide (G.n < q) = false := decide_eq_false (by omega)
      have hk5 : q ≤ G.n := by omega
      have hfd : ∀ (W : World) (a b : Value), (Instr.field 86 (.agg #[a, b]) 0).run Try.prog W = .ok a W := fun _ _ _ => by kernel_rfl
      have hk4 : (0 : Int) ≤ (q : Int) := by omega
      have HX := Lib.hid hb
      have HK := Lib.hid (And.intro hk1 hk2)
      clear hl2 hb hk1 hk2
      go_enter Try.func56, Try.ntmps56
      go_wp2_with fail
      refine hbr.mono ?_
      rintro e wx ⟨rfl, rfl⟩
      clear hbr
      go_wp2_with fail
      refine hnow.mono ?_
      clear hnow
      rintro e w2 ⟨rfl, hb2⟩
      have cb : w2.cell? ⟨M.ub, q, none⟩ = some (.bool b) := (HB.out.below hb2).cell HX.out
      have H2 := Lib.hid hb2
      clear hb2
      cases b with
      | true =>
        go_wp2_with fail
        go_ret
        exact ⟨by rw [HR.out, if_neg (by have := HK.out; omega), Int.toNat_natCast, if_pos HX.out]; rfl, H2.out⟩
      | false =>
        go_wp2_with fail
        go_ret
        exact ⟨by rw [HR.out, if_neg (by have := HK.out; omega), Int.toNat_natCast, if_neg (by rw [HX.out]; decide)]; rfl, H2.out⟩
end Go.Proofs.Ytliakkpmmmgmhaa
/- A page is read, in a transaction or without. -/
namespace Go.Proofs.Ytliakkpmmmgmhaa
open Go.RowKit

theorem PgRep.core {w : World} {G : PgG} (h : PgRep w G) : PgCore w G.P G.head G.D G.Q G.B G.n G.ob G.ks G.f :=
  { blk := h.blk, c0 := rfl, c2 := rfl, c3 := rfl, c4 := rfl, c7 := rfl, disk := h.disk, pool := h.pool, over := h.over, live := h.live, W0 := h.sync.1, B300 := h.B300, n1600 := h.n1600, fit := h.fit, frames := h.frames, keys := h.keys, ne1 := h.ne1 }
theorem pool_ne {w : World} {Q : PoolG} (h : PoolRep w Q) {g : Nat} {t : TypeId} {cs : Array Value} (hb : Blk w g t cs) (h1 : t ≠ 61) (h2 : t ≠ 64) : ¬ Q.own g := by
  rintro (e | e | e)
  · exact hb.ne_ h.bp h1 e
  · exact hb.ne_ h.bf h2 e
  · exact h.bm.ne_blk hb e.symm
theorem pool_ne_map {w : World} {Q : PoolG} (h : PoolRep w Q) {g : Nat} {ks : List Int} {f : Int → Option (List UInt8)} (hb : PMap w g ks f) (hne : g ≠ Q.mb) : ¬ Q.own g := by
  rintro (e | e | e)
  · exact hb.ne_blk h.bp e
  · exact hb.ne_blk h.bf e
  · exact hne e
theorem MetaRep.ub_blk {w : World} {M : MetaG} (h : MetaRep w M) : ∃ C, Blk w M.ub 4 C := by obtain ⟨C, hC, _⟩ := h.used.blk; exact ⟨C, hC⟩
/-- The pool alone is turned. -/
theorem PgRep.poolStep {w w' : World} {G : PgG} (h : PgRep w G) {Q' : PoolG} (k : Turned G.Q.own w w') (hq : PoolRep w' Q') (hp : Q'.p = G.Q.p) (hm : Q'.mb = G.Q.mb) (hf : FramesOk G.D Q' G.B G.n G.f) : PgRep w' { G with Q := Q' } := by
  have hc := h.core.poolStep k hq hp hm hf
  have h8 := h.pool.not8
  obtain ⟨Cu, hCu⟩ := h.mrep.ub_blk
  have hh : PgG.head { G with Q := Q' } = G.head := by unfold PgG.head; rw [hp]
  exact { h with blk := by rw [hh]; exact hc.blk, disk := hc.disk, log := h.log.turned k (pool_ne h.pool h.log.blk (by decide) (by decide)) h8, pool := hq, mrep := h.mrep.turned k (pool_ne h.pool hCu (by decide) (by decide)) h8, over := hc.over, frames := hf, ne1 := (by show G.ob ≠ Q'.mb; rw [hm]; exact h.ne1), tx := (fun T hT => by
      have ht := h.tx T hT
      obtain ⟨Ct, hCt⟩ := ht.mrep.ub_blk
      exact ⟨ht.blk.turned k (pool_ne h.pool ht.blk (by decide) (by decide)), ht.mrep.turned k (pool_ne h.pool hCt (by decide) (by decide)) h8, ht.map.turned k (pool_ne_map h.pool ht.map (h.txul T hT).2.2.2.1) h8⟩), txul := (fun T hT => by
      obtain ⟨a, b, c, d, e⟩ := h.txul T hT
      exact ⟨a, b, c, by show T.pb ≠ Q'.mb; rw [hm]; exact d, e⟩) }
/-- A page as it is now. -/
def PgG.nowPage (G : PgG) (k : Nat) : List UInt8 := match G.tx with
  | some T => match T.f (k : Int) with
    | some l => l
    | none => pageOf G.D G.B G.f k
  | none => pageOf G.D G.B G.f k
def PageDone (w : World) (G : PgG) (k : Nat) (e : Ending) (w' : World) : Prop :=
  ∃ v Q', e = .returned (.tuple #[v, .int .i64 0]) ∧ Fresh w w' v (G.nowPage k) ∧ PgRep w' { G with Q := Q' } ∧ Turned G.Q.own w w' ∧ Q'.p = G.Q.p ∧ Q'.fb = G.Q.fb ∧ Q'.mb = G.Q.mb
set_option linter.unusedSimpArgs false in
set_option maxRecDepth 100000 in
set_option maxHeartbeats 4000000 in
theorem page_yes (G : PgG) (k : Nat) (w : World) (h : PgRep w G) (h1 : 1 ≤ k) (h2 : k ≤ G.n) (hu : G.nowM.used[k]? = some true) : Calls Try.prog 32 #[.pointer (some ⟨G.P, 0, none⟩), .int .i64 (k : Int)] w (PageDone w G k) := by
  have hhas := has_c G (k : Int) w h
  have h0 : hasP G (k : Int) = 0 := by unfold hasP; rw [if_neg (by omega), Int.toNat_natCast, if_pos hu]
  unfold HasDone at hhas
  rw [h0] at hhas
  have HH := Lib.hid (And.intro h (And.intro h1 h2))
  clear h h1 h2 hu h0
  cases htx : G.tx with
  | none =>
    have hnp : G.nowPage k = pageOf G.D G.B G.f k := by unfold PgG.nowPage; rw [htx]
    have HX := Lib.hid hnp
    clear hnp
    go_enter Try.func32, Try.ntmps32
    go_wp2_with fail
    refine hhas.mono ?_
    clear hhas
    rintro e w2 ⟨rfl, hb2⟩
    have hr2 := HH.out.1.below hb2
    have c8 : w2.cell? ⟨G.P, 8, none⟩ = some (.pointer none) := (hr2.blk.cell 8).trans (by unfold PgG.head; rw [htx]; rfl)
    have hrd := pread_c _ _ _ _ _ _ _ _ _ k w2 hr2.core HH.out.2.2
    have H2 := Lib.hid (And.intro hb2 hr2)
    clear hb2 hr2 htx
    go_wp2_with fail
    refine hrd.mono ?_
    clear hrd
    rintro e w3 ⟨v, Q', rfl, hf, hc, ht, q1, q2, q3⟩
    have H3 := Lib.hid (And.intro hf (And.intro hc (And.intro ht (And.intro q1 (And.intro q2 q3)))))
    clear hf hc ht q1 q2 q3
    go_wp2_with fail
    go_ret2
    obtain ⟨hf, hc, ht, q1, q2, q3⟩ := H3.out
    refine ⟨v, Q', rfl, by rw [HX.out]; exact hf.older H2.out.1.size, H2.out.2.poolStep ht hc.pool q1 q3 hc.frames, (Turned.of_below (S := G.Q.own) H2.out.1).trans ht (fun _ _ e => e), q1, q2, q3⟩
  | some T =>
    cases hTf : T.f (k : Int) with
    | some l =>
      have hnp : G.nowPage k = l := by unfold PgG.nowPage; rw [htx]; show (match T.f (k : Int) with | some l => l | none => _) = _; rw [hTf]
      have HX := Lib.hid (And.intro hnp (And.intro htx hTf))
      clear hnp htx hTf
      go_enter Try.func32, Try.ntmps32
      go_wp2_with fail
      refine hhas.mono ?_
      clear hhas
      rintro e w2 ⟨rfl, hb2⟩
      have hr2 := HH.out.1.below hb2
      have hT2 := hr2.tx T HX.out.2.1
      have c8 : w2.cell? ⟨G.P, 8, none⟩ = some (.pointer (some ⟨T.b, 0, none⟩)) := (hr2.blk.cell 8).trans (by unfold PgG.head; rw [HX.out.2.1]; rfl)
      have ct : w2.cell? ⟨T.b, 2, none⟩ = some (.map (some T.pb)) := hT2.blk.cell 2
      obtain ⟨vm, A, c, hm, hg, hB⟩ := hT2.map.yes HX.out.2.2
      have hl := hm.lookup_yes Try.underlying82 Try.underlying3 hg
      have H2 := Lib.hid (And.intro hb2 (And.intro hr2 hB))
      clear hb2 hr2 hT2 hm hg hB
      go_wp2_with fail
      refine (clone_c A 512 c l w2 H2.out.2.2 (by omega)).mono ?_
      rintro e w3 ⟨v, rfl, hfr, hb⟩
      have H3 := Lib.hid (And.intro hfr hb)
      clear hfr hb hl c8 ct
      go_wp2_with fail
      go_ret2
      have hp3 := H2.out.2.1.below H3.out.2
      refine ⟨v, G.Q, rfl, by rw [HX.out.1]; exact H3.out.1.older H2.out.1.size, hp3, Turned.of_below (H2.out.1.trans (H3.out.2.mono H2.out.1.size)), rfl, rfl, rfl⟩
    | none =>
      have hnp : G.nowPage k = pageOf G.D G.B G.f k := by unfold PgG.nowPage; rw [htx]; show (match T.f (k : Int) with | some l => l | none => _) = _; rw [hTf]
      have HX := Lib.hid (And.intro hnp (And.intro htx hTf))
      clear hnp htx hTf
      go_enter Try.func32, Try.ntmps32
      go_wp2_with fail
      refine hhas.mono ?_
      clear hhas
      rintro e w2 ⟨rfl, hb2⟩
      have hr2 := HH.out.1.below hb2
      have hT2 := hr2.tx T HX.out.2.1
      have c8 : w2.cell? ⟨G.P, 8, none⟩ = some (.pointer (some ⟨T.b, 0, none⟩)) := (hr2.blk.cell 8).trans (by unfold PgG.head; rw [HX.out.2.1]; rfl)
      have ct : w2.cell? ⟨T.b, 2, none⟩ = some (.map (some T.pb)) := hT2.blk.cell 2
      obtain ⟨vm, hm, hg⟩ := hT2.map.no HX.out.2.2
      have hz : ∀ W, (zeroValue 31).run Try.prog W = .ok (.slice none 0 0) W := fun _ => by kernel_rfl
      have hl := hm.lookup_no Try.underlying82 Try.underlying3 (hz w2) hg
      have hrd := pread_c _ _ _ _ _ _ _ _ _ k w2 hr2.core HH.out.2.2
      have H2 := Lib.hid (And.intro hb2 hr2)
      clear hb2 hr2 hT2 hm hg hz
      go_wp2_with fail
      refine hrd.mono ?_
      clear hrd
      rintro e w3 ⟨v, Q', rfl, hf, hc, ht, q1, q2, q3⟩
      have H3 := Lib.hid (And.intro hf (And.intro hc (And.intro ht (And.intro q1 (And.intro q2 q3)))))
      clear hf hc ht q1 q2 q3 hl c8 ct
      go_wp2_with fail
      go_ret2
      obtain ⟨hf, hc, ht, q1, q2, q3⟩ := H3.out
      refine ⟨v, Q', rfl, by rw [HX.out.1]; exact hf.older H2.out.1.size, H2.out.2.poolStep ht hc.pool q1 q3 hc.frames, (Turned.of_below (S := G.Q.own) H2.out.1).trans ht (fun _ _ e => e), q1, q2, q3⟩
end Go.Proofs.Ytliakkpmmmgmhaa
/- A page is put. -/
namespace Go.Proofs.Ytliakkpmmmgmhaa
open Go.RowKit

theorem PMap.update {w : World} {b : Nat} {ks : List Int} {f : Int → Option (List UInt8)} (h : PMap w b ks f) (n : Int) {A : Option Addr} {c : Nat} {l : List UInt8} (hB : Bs 5 w A 512 c l) :
    ∃ w', (Instr.mapUpdate 82 (.map (some b)) (.int .i64 n) (.slice A 512 c)).run Try.prog w = .ok () w' ∧ PMap w' b (kput ks n) (pput f n l) ∧ Turned (fun k => k = b) w w' ∧ w'.heap.size = w.heap.size := by
  have h8 := h.not8 (t := 5)
  obtain ⟨vm, h1, rfl, h3⟩ := h
  obtain ⟨w', hrun, hm', ht, hs⟩ := h1.update (P := Try.prog) Try.underlying82 Try.underlying3 n (.slice A 512 c)
  refine ⟨w', hrun, ⟨_, hm', (mput_keys _ _ _).symm, fun k => ?_⟩, ht, hs⟩
  rw [mget_put]
  unfold pput
  by_cases e : k = n
  · rw [if_pos e, if_pos e]
    exact .inr ⟨A, c, l, rfl, rfl, hB.turned ht (fun k e => by subst e; exact h8)⟩
  · rw [if_neg e, if_neg e]
    rcases h3 k with h4 | ⟨A, c, l, h4, h5, h6⟩
    · exact .inl h4
    · exact .inr ⟨A, c, l, h4, h5, h6.turned ht (fun k e => by subst e; exact h8)⟩
def TxG.own3 (T : TxG) (x : Nat) : Prop := x = T.b ∨ x = T.M.ub ∨ x = T.pb
/-- The transaction alone is turned. -/
theorem PgRep.txStep {w w' : World} {G : PgG} {T T' : TxG} (h : PgRep w G) (htx : G.tx = some T) (k : Turned T.own3 w w') (hb : T'.b = T.b) (hub : T'.M.ub = T.M.ub) (hpb : T'.pb = T.pb) (hul : T'.M.used.length = T.M.used.length) (ht : TxRep w' T') (hk : ∀ n l, T'.f n = some l → 0 ≤ n ∧ n ≤ G.n ∧ l.length = 512) : PgRep w' { G with tx := some T' } := by
  have hT := h.tx T htx
  obtain ⟨a1, a2, a3, a4, _⟩ := h.txul T htx
  obtain ⟨Cu, hCu⟩ := hT.mrep.ub_blk
  obtain ⟨Cg, hCg⟩ := h.mrep.ub_blk
  have h8 : ∀ x, T.own3 x → Not8 5 w x := by
    rintro x (e | e | e)
    · subst e; exact hT.blk.not8 (by decide)
    · subst e; exact hCu.not8 (by decide)
    · subst e; exact hT.map.not8
  have nb : ∀ {g : Nat} {t : TypeId} {cs : Array Value}, Blk w g t cs → t ≠ 97 → t ≠ 4 → ¬ T.own3 g := by
    rintro g t cs hg h1 h2 (e | e | e)
    · exact hg.ne_ hT.blk h1 e
    · exact hg.ne_ hCu h2 e
    · exact hT.map.ne_blk hg e.symm
  have nm : ∀ {g : Nat} {vm : List (Int × Value)}, IMap w g vm → g ≠ T.pb → ¬ T.own3 g := by
    rintro g vm hg h1 (e | e | e)
    · exact hg.ne_blk hT.blk e
    · exact hg.ne_blk hCu e
    · exact h1 e
  have ep : txPtr (some T') = txPtr G.tx := by rw [htx]; show Value.pointer (some ⟨T'.b, 0, none⟩) = Value.pointer (some ⟨T.b, 0, none⟩); rw [hb]
  have hh : PgG.head { G with tx := some T' } = G.head := by
    rw [show PgG.head { G with tx := some T' } = G.head.setIfInBounds 8 (txPtr (some T')) from rfl, ep]; rfl
  obtain ⟨om, hom, _⟩ := h.over.imap
  have hmu : ¬ T.own3 G.M.ub := by
    rintro (e | e | e)
    · exact hCg.ne_ hT.blk (by decide) e
    · exact a2 e.symm
    · exact hT.map.ne_blk hCg e.symm
  exact { h with blk := (by rw [hh]; exact h.blk.turned k (nb h.blk (by decide) (by decide))), disk := h.disk.turned0 h.sync.1 k (nb h.disk.bd (by decide) (by decide)) (nb h.disk.bb (by decide) (by decide)), log := h.log.turned k (nb h.log.blk (by decide) (by decide)) h8, pool := h.pool.turned k (nb h.pool.bp (by decide) (by decide)) (nb h.pool.bf (by decide) (by decide)) (nm h.pool.bm (fun e => a4 e.symm)) h8, mrep := h.mrep.turned k hmu h8, over := h.over.turned k (nm hom (fun e => a3 e.symm)) h8, tx := (fun T2 e => by injection e with e; subst e; exact ht), txul := (fun T2 e => by injection e with e; subst e; exact ⟨hul.trans a1, by rw [hub]; exact a2, by rw [hpb]; exact a3, by rw [hpb]; exact a4, hk⟩) }
def PgPutDone (w : World) (G : PgG) (T : TxG) (k : Nat) (l : List UInt8) (e : Ending) (w' : World) : Prop :=
  e = .returned (.int .i64 0) ∧ PgRep w' { G with tx := some { T with ks := kput T.ks (k : Int), f := pput T.f (k : Int) l } } ∧ Turned (fun x => x = T.pb) w w'
set_option linter.unusedSimpArgs false in
set_option maxRecDepth 100000 in
set_option maxHeartbeats 4000000 in
theorem put_yes {tb : TypeId} (G : PgG) (T : TxG) (k : Nat) (A : Option Addr) (c : Nat) (l : List UInt8) (w : World) (h : PgRep w G) (htx : G.tx = some T) (h1 : 1 ≤ k) (h2 : k ≤ G.n) (hu : T.M.used[k]? = some true) (hB : Bs tb w A 512 c l) :
    Calls Try.prog 28 #[.pointer (some ⟨G.P, 0, none⟩), .int .i64 (k : Int), .slice A 512 c] w (PgPutDone w G T k l) := by
  have hbr := pbroken_c G w h
  have hhas := has_c G (k : Int) w h
  have h0 : hasP G (k : Int) = 0 := by unfold hasP; rw [if_neg (by omega), Int.toNat_natCast, if_pos (by unfold PgG.nowM; rw [htx]; exact hu)]
  unfold HasDone at hhas
  rw [h0] at hhas
  have c8 : w.cell? ⟨G.P, 8, none⟩ = some (.pointer (some ⟨T.b, 0, none⟩)) := (h.blk.cell 8).trans (by unfold PgG.head; rw [htx]; rfl)
  have HH := Lib.hid (And.intro h (And.intro htx (And.intro h1 (And.intro h2 hB))))
  clear h htx h1 h2 hu h0 hB
  go_enter Try.func28, Try.ntmps28
  go_wp2_with fail
  refine hbr.mono ?_
  rintro e wx ⟨rfl, rfl⟩
  clear hbr
  go_wp2_with fail
  refine hhas.mono ?_
  clear hhas
  rintro e w2 ⟨rfl, hb2⟩
  have hr2 := HH.out.1.below hb2
  have hT2 := hr2.tx T HH.out.2.1
  have d8 : w2.drew.cell? ⟨G.P, 8, none⟩ = some (.pointer (some ⟨T.b, 0, none⟩)) := (hr2.blk.cell 8).trans (by unfold PgG.head; rw [HH.out.2.1]; rfl)
  have d2 : w2.drew.cell? ⟨T.b, 1 + 1, none⟩ = some (.map (some T.pb)) := hT2.blk.cell 2
  have H2 := Lib.hid (And.intro hb2 (And.intro hr2 hT2))
  clear hb2 hr2 hT2 c8
  have hS0 : w2.drew.cell? ⟨G.P, 8, none⟩ = some (.pointer (some ⟨T.b, 0, none⟩)) ∧ w2.drew.cell? ⟨T.b, 2, none⟩ = some (.map (some T.pb)) := ⟨d8, d2⟩
  have HBs := Lib.hid (HH.out.2.2.2.2.below H2.out.1).drew
  clear d8 d2
  go_wp2_with fail
  go_region_held (fun W => W.cell? ⟨G.P, 8, none⟩ = some (.pointer (some ⟨T.b, 0, none⟩)) ∧ W.cell? ⟨T.b, 2, none⟩ = some (.map (some T.pb))) (first | assumption)
    (first
      | (go_at_call 27
         (refine (clone_c A 512 c l _ HBs.out (by omega)).mono ?_)
         rintro e w4 ⟨v4, rfl, ⟨A4, n4, c4, rfl, hr4, hrs4⟩, hb4⟩
         have hn4 : n4 = 512 := by rw [← hr4.len]; exact HBs.out.len
         subst hn4
         have hb24 : Below w2.heap.size w2 w4 := ⟨hb4.os, hb4.tape, hb4.output, hb4.size, hb4.block⟩
         have hr24 := H2.out.2.1.below hb24
         have hT4 := hr24.tx T HH.out.2.1
         obtain ⟨w5, hrun, hm5, ht5, hs5⟩ := hT4.map.update (k : Int) hr4
         have hS4 : w4.cell? ⟨G.P, 8, none⟩ = some (.pointer (some ⟨T.b, 0, none⟩)) ∧ w4.cell? ⟨T.b, 2, none⟩ = some (.map (some T.pb)) := cells2_below hS0 hb4
         have hS5 : w5.cell? ⟨G.P, 8, none⟩ = some (.pointer (some ⟨T.b, 0, none⟩)) ∧ w5.cell? ⟨T.b, 2, none⟩ = some (.map (some T.pb)) := ⟨ht5.cell hS4.1 (fun (e : G.P = T.pb) => hT4.map.ne_blk hr24.blk e.symm), ht5.cell hS4.2 (fun (e : T.b = T.pb) => hT4.map.ne_blk hT4.blk e.symm)⟩
         have H4 := Lib.hid (And.intro hb24 (And.intro hr24 (And.intro hT4 (And.intro hm5 ht5))))
         clear hr4 hrs4 hb4 hb24 hr24 hT4 hm5 ht5 hs5))
  clear hS0 hS4 hS5 hrun
  go_wp2_with fail
  go_ret
  obtain ⟨hb24, hr24, hT4, hm5, ht5⟩ := H4.out
  have ht3 : Turned T.own3 w4 w5 := ht5.more (fun _ _ e => .inr (.inr e))
  obtain ⟨Cu, hCu⟩ := hT4.mrep.ub_blk
  have h8 : ∀ x, x = T.pb → Not8 5 w4 x := fun x e => by subst e; exact hT4.map.not8
  refine ⟨rfl, hr24.txStep HH.out.2.1 ht3 rfl rfl rfl rfl ⟨hT4.blk.turned ht5 (fun (e : T.b = T.pb) => hT4.map.ne_blk hT4.blk e.symm), hT4.mrep.turned ht5 (fun (e : T.M.ub = T.pb) => hT4.map.ne_blk hCu e.symm) h8, hm5⟩ ?_, (Turned.of_below (S := fun x => x = T.pb) (H2.out.1.trans (hb24.mono H2.out.1.size))).trans ht5 (fun _ _ e => e)⟩
  intro n' l' e
  have e' : pput T.f (k : Int) l n' = some l' := e
  unfold pput at e'
  split at e'
  · rename_i he; injection e' with e'; subst e'; subst he
    exact ⟨by omega, by have := HH.out.2.2.2.1; omega, HBs.out.len⟩
  · exact (hr24.txul T HH.out.2.1).2.2.2.2 n' l' e'
end Go.Proofs.Ytliakkpmmmgmhaa
/- A page is taken. -/
namespace Go.Proofs.Ytliakkpmmmgmhaa
open Go.RowKit

theorem make_bs (w : World) (n : Nat) (hn : n ≤ 1000000000) : (Instr.makeSlice 31 (.int .i64 (n : Int)) (.int .i64 (n : Int))).run Try.prog w = .ok (.slice (some ⟨w.heap.size, 0, none⟩) n n) (w.alloc (.cells (u8s (zeros n)).toArray 5)) ∧ Blk (w.alloc (.cells (u8s (zeros n)).toArray 5)) w.heap.size 5 (u8s (zeros n)).toArray ∧ Below w.heap.size w (w.alloc (.cells (u8s (zeros n)).toArray 5)) ∧ (w.alloc (.cells (u8s (zeros n)).toArray 5)).heap.size = w.heap.size + 1 := by
  obtain ⟨i0, hi, hz, hs, hb⟩ := info_parts info8
  have hr := run_make (P := Try.prog) w 31 5 i0 _ Try.underlying31 hi hz .i64 .i64 n n (by omega) (Int.le_refl _) (by rw [hb]; omega) (by omega)
  have e : (madeCells (Value.int .u8 0).cells ((n : Int).toNat * i0.size)) = (u8s (zeros n)).toArray := by
    rw [hs, Int.toNat_natCast, Nat.mul_one]
    apply Array.toList_inj.1
    show (madeCells #[Value.int .u8 0] n).toList = u8s (zeros n)
    rw [toList_madeCells_one]
    simp [u8s, zeros]
  simp only [Int.toNat_natCast] at hr e
  rw [e] at hr
  exact ⟨hr, Blk.new w _ _, (Below.refl _ _).alloc (Nat.le_refl _) _, by simp⟩
/-- The transaction behind an Alloc. -/
def TxG.took (T : TxG) (k : Nat) : TxG := { T with M := { T.M with used := T.M.used.set k true }, ks := kput T.ks (k : Int), f := pput T.f (k : Int) (zeros 512), own := true }
def AllocDone (w : World) (G : PgG) (T : TxG) (k : Nat) (e : Ending) (w' : World) : Prop :=
  e = .returned (.tuple #[.int .i64 (k : Int), .int .i64 0]) ∧ PgRep w' { G with tx := some (T.took k) } ∧ Turned T.own3 w w'
/-- The page's mark, and that the transaction did more. -/
theorem alloc_marks {w w5 : World} {T : TxG} {q : Nat} (hb : Blk w T.b 97 T.head) (hB : BoolsAt w T.M.ub T.M.used.length T.M.uc T.M.used)
    (h5 : w5 = (w.setCell ⟨T.M.ub, q, none⟩ (.bool true)).setCell ⟨T.b, 3, none⟩ (.bool true) ∨ w5 = (w.setCell ⟨T.b, 3, none⟩ (.bool true)).setCell ⟨T.M.ub, q, none⟩ (.bool true)) :
    Blk w5 T.b 97 (T.head.setIfInBounds 3 (.bool true)) ∧ BoolsAt w5 T.M.ub T.M.used.length T.M.uc (T.M.used.set q true) ∧ Turned (fun x => x = T.b ∨ x = T.M.ub) w w5 := by
  obtain ⟨C, hC, _⟩ := hB.blk
  have hne : T.b ≠ T.M.ub := hb.ne_ hC (by decide)
  rcases h5 with rfl | rfl
  · refine ⟨(hb.far (p := ⟨T.M.ub, q, none⟩) hne _).set_ 3 _, ?_, (Turned.setCell (S := fun x => x = T.b ∨ x = T.M.ub) (Turned.refl _ w) (p := ⟨T.M.ub, q, none⟩) (fun _ => .inr rfl) _).setCell (p := ⟨T.b, 3, none⟩) (fun _ => .inl rfl) _⟩
    exact (hB.set_ q true).turned (S := fun x => x = T.b) (Turned.setCell (S := fun x => x = T.b) (Turned.refl _ _) (p := ⟨T.b, 3, none⟩) (fun _ => rfl) _) (fun e => hne e.symm)
  · refine ⟨(hb.set_ 3 _).far (p := ⟨T.M.ub, q, none⟩) hne _, ?_, (Turned.setCell (S := fun x => x = T.b ∨ x = T.M.ub) (Turned.refl _ w) (p := ⟨T.b, 3, none⟩) (fun _ => .inl rfl) _).setCell (p := ⟨T.M.ub, q, none⟩) (fun _ => .inr rfl) _⟩
    exact (hB.turned (S := fun x => x = T.b) (Turned.setCell (S := fun x => x = T.b) (Turned.refl _ _) (p := ⟨T.b, 3, none⟩) (fun _ => rfl) _) (fun e => hne e.symm)).set_ q true
def AllocRel (w : World) (k : Nat) (i : Value) (wr : World) : Prop := ∃ q : Nat, 1 ≤ q ∧ q ≤ k ∧ i = .int .i64 (q : Int) ∧ wr = w
set_option linter.unusedSimpArgs false in
set_option maxRecDepth 100000 in
set_option maxHeartbeats 8000000 in
theorem alloc_yes (G : PgG) (T : TxG) (k : Nat) (w : World) (h : PgRep w G) (htx : G.tx = some T) (h1 : 1 ≤ k) (h2 : k ≤ G.n) (hu : T.M.used[k]? = some false) (hl : ∀ q, 1 ≤ q → q < k → T.M.used[q]? = some true) :
    Calls Try.prog 22 #[.pointer (some ⟨G.P, 0, none⟩)] w (AllocDone w G T k) := by
  have hbr := pbroken_c G w h
  have hT := h.tx T htx
  have c8 : w.cell? ⟨G.P, 8, none⟩ = some (.pointer (some ⟨T.b, 0, none⟩)) := (h.blk.cell 8).trans (by unfold PgG.head; rw [htx]; rfl)
  have c4 : w.cell? ⟨G.P, 4, none⟩ = some (.int .i64 (G.n : Int)) := h.blk.cell 4
  obtain ⟨ul, hul⟩ : ∃ ul, ul = T.M.used.length := ⟨_, rfl⟩
  have t0 : w.cell? ⟨T.b, 0, none⟩ = some (.slice (some ⟨T.M.ub, 0, none⟩) ul T.M.uc) := by rw [hul]; exact hT.blk.cell 0
  have t2 : w.cell? ⟨T.b, 2, none⟩ = some (.map (some T.pb)) := hT.blk.cell 2
  have t3 : w.cell? ⟨T.b, 3, none⟩ = some (.bool T.own) := hT.blk.cell 3
  have hull : (ul : Int) = (G.n : Int) + 1 := by rw [hul]; have := (h.txul T htx).1; omega
  have hn16 : (G.n : Int) ≤ 1600 := by have := h.n1600; omega
  have HH := Lib.hid (And.intro h (And.intro htx (And.intro hT (And.intro hu (And.intro hl (And.intro hul h1))))))
  have hkn : (k : Int) ≤ (G.n : Int) := by omega
  clear h htx hT hu hl hul h1 h2
  go_enter Try.func22, Try.ntmps22
  go_wp2_with fail
  refine hbr.mono ?_
  rintro e wx ⟨rfl, rfl⟩
  clear hbr
  go_wp2_with fail
  go_loopw [4] (fun i wr => AllocRel w k i wr) (fun i _ => k - (intOf i).toNat)
  case atStart => exact ⟨1, by omega, HH.out.2.2.2.2.2.2, rfl, rfl⟩
  case round =>
    obtain ⟨q, hq1, hq2, rfl, rfl⟩ := hrel
    have hul := HH.out.2.2.2.2.2.1
    by_cases hqk : q < k
    · have hb : T.M.used[q]? = some true := HH.out.2.2.2.2.1 q hq1 hqk
      have cb : wr.cell? ⟨T.M.ub, q, none⟩ = some (.bool true) := HH.out.2.2.1.mrep.used.cell hb
      have r1 : (q : Int) ≤ (G.n : Int) := by omega
      have r2 : (q : Int) < (ul : Int) := by omega
      have r3 : (0 : Int) ≤ (q : Int) := by omega
      have d1 : decide ((q : Int) ≤ (G.n : Int)) = true := decide_eq_true r1
      clear hul hb
      go_wp2_with fail
      go_roundw
      case rel => exact ⟨q + 1, by omega, by omega, by go_num, rfl⟩
      case measure => simp [intOf]; omega
    · obtain rfl : q = k := by omega
      have hb : T.M.used[q]? = some false := HH.out.2.2.2.1
      have cb : wr.cell? ⟨T.M.ub, q, none⟩ = some (.bool false) := HH.out.2.2.1.mrep.used.cell hb
      have r2 : (q : Int) < (ul : Int) := by omega
      have r3 : (0 : Int) ≤ (q : Int) := by omega
      have d1 : decide ((q : Int) ≤ (G.n : Int)) = true := decide_eq_true hkn
      obtain ⟨Cu, hCu, _⟩ := HH.out.2.2.1.mrep.used.blk
      have HCu := Lib.hid hCu
      have hPt : ¬ G.P = T.b := HH.out.1.blk.ne_ HH.out.2.2.1.blk (by decide)
      have hPt' : ¬ T.b = G.P := fun e => hPt e.symm
      have hPu : ¬ G.P = T.M.ub := HH.out.1.blk.ne_ hCu (by decide)
      have hPu' : ¬ T.M.ub = G.P := fun e => hPu e.symm
      have htu : ¬ T.b = T.M.ub := HH.out.2.2.1.blk.ne_ hCu (by decide)
      have htu' : ¬ T.M.ub = T.b := fun e => htu e.symm
      have f1 : wr.frozen? ⟨T.M.ub, q, none⟩ = false := hCu.frozen q
      have e2 : (wr.setCell ⟨T.M.ub, q, none⟩ (.bool true)).cell? ⟨T.b, 3, none⟩ = some (.bool T.own) := cell_far t3 htu
      have f2 : (wr.setCell ⟨T.M.ub, q, none⟩ (.bool true)).frozen? ⟨T.b, 3, none⟩ = false := (HH.out.2.2.1.blk.far (p := ⟨T.M.ub, q, none⟩) htu (.bool true)).frozen 3
      have r4 : (q : Int) < (G.n : Int) + 1 := by omega
      have HU := Lib.hid hull
      clear hull
      clear hul hb hCu
      go_wp2_with fail
      go_region
      obtain ⟨w5, hw5⟩ : ∃ x, x = (wr.setCell ⟨T.M.ub, q, none⟩ (.bool true)).setCell ⟨T.b, 3, none⟩ (.bool true) := ⟨_, rfl⟩
      change Exit.then _ _ _ _ ((wr.setCell ⟨T.M.ub, q, none⟩ (.bool true)).setCell ⟨T.b, 3, none⟩ (.bool true)).drew
      rw [← hw5]
      obtain ⟨m1, m2, m3⟩ := alloc_marks (q := q) HH.out.2.2.1.blk HH.out.2.2.1.mrep.used (.inl hw5)
      have hub8 : ∀ x, (x = T.b ∨ x = T.M.ub) → Not8 5 wr x := by
        rintro x (e | e)
        · subst e; exact HH.out.2.2.1.blk.not8 (by decide)
        · subst e; exact HCu.out.not8 (by decide)
      have m4 : PMap w5 T.pb T.ks T.f := HH.out.2.2.1.map.turned m3 (by
        rintro (e | e)
        · exact HH.out.2.2.1.map.ne_blk HH.out.2.2.1.blk e
        · exact HH.out.2.2.1.map.ne_blk HCu.out e) hub8
      have m5 : Blk w5 G.P 89 G.head := HH.out.1.blk.turned m3 (by
        rintro (e | e)
        · exact hPt e
        · exact hPu e)
      obtain ⟨hmk, hb6, hbel6, hs6⟩ := make_bs w5.drew.drew 512 (by omega)
      obtain ⟨w6, hw6⟩ : ∃ x, x = w5.drew.drew.alloc (.cells (u8s (zeros 512)).toArray 5) := ⟨_, rfl⟩
      rw [← hw6] at hmk hb6 hbel6 hs6
      obtain ⟨g6, hg6⟩ : ∃ g, g = w5.drew.drew.heap.size := ⟨_, rfl⟩
      rw [← hg6] at hb6 hmk
      have hmk' : (Instr.makeSlice 31 (.int .i64 512) (.int .i64 512)).run Try.prog w5.drew.drew = .ok (.slice (some ⟨g6, 0, none⟩) 512 512) w6 := hmk
      clear hmk hg6
      have hbel6' : Below w5.heap.size w5 w6 := ⟨hbel6.os, hbel6.tape, hbel6.output, hbel6.size, hbel6.block⟩
      have m6 := m4.below hbel6'
      obtain ⟨w7, hrun, hm7, ht7, hs7⟩ := m6.update (q : Int) (blk_bs hb6 (by rw [zeros_len]; decide) (by rw [zeros_len]))
      have hP8 : ∀ W, Turned (fun x => x = T.pb) w5 W → W.cell? ⟨G.P, 8, none⟩ = some (.pointer (some ⟨T.b, 0, none⟩)) ∧ W.cell? ⟨T.b, 2, none⟩ = some (.map (some T.pb)) := fun W k =>
        ⟨(m5.turned k (fun e => m4.ne_blk m5 e.symm)).cell 8 |>.trans (by unfold PgG.head; rw [HH.out.2.1]; rfl), (m1.turned k (fun e => m4.ne_blk m1 e.symm)).cell 2⟩
      have hS0 : w5.drew.drew.cell? ⟨G.P, 8, none⟩ = some (.pointer (some ⟨T.b, 0, none⟩)) ∧ w5.drew.drew.cell? ⟨T.b, 2, none⟩ = some (.map (some T.pb)) := hP8 _ ((Turned.refl _ w5).drew.drew)
      have hS6 : w6.cell? ⟨G.P, 8, none⟩ = some (.pointer (some ⟨T.b, 0, none⟩)) ∧ w6.cell? ⟨T.b, 2, none⟩ = some (.map (some T.pb)) := hP8 _ (Turned.of_below hbel6')
      have hS7 : w7.cell? ⟨G.P, 8, none⟩ = some (.pointer (some ⟨T.b, 0, none⟩)) ∧ w7.cell? ⟨T.b, 2, none⟩ = some (.map (some T.pb)) := hP8 _ ((Turned.of_below hbel6').trans ht7 (fun _ _ e => e))
      have H5 := Lib.hid (And.intro hw5 (And.intro m1 (And.intro m2 (And.intro m3 (And.intro hbel6' (And.intro hm7 ht7))))))
      clear hw5 m1 m2 m3 m4 m5 m6 hP8 hub8 hw6 hb6 hbel6 hbel6' hs6 hm7 ht7 hs7 c8 c4 t0 t2 t3 cb f1 e2 f2
      go_wp2_with fail
      go_region_held (fun W => W.cell? ⟨G.P, 8, none⟩ = some (.pointer (some ⟨T.b, 0, none⟩)) ∧ W.cell? ⟨T.b, 2, none⟩ = some (.map (some T.pb))) (first | assumption) (fail)
      clear hS0 hS6 hS7 hmk' hrun
      go_wp2_with fail
      go_ret2
      obtain ⟨hw5, m1, m2, m3, hbel6, hm7, ht7⟩ := H5.out
      obtain ⟨hP, htx, hT, _, _, _, h1⟩ := HH.out
      have hmb := hT.map.lt
      have t67 : Turned (fun x => x = T.pb) w5 w7 := (Turned.of_below hbel6).trans ht7 (fun _ _ e => e)
      have ht3 : Turned T.own3 wr w7 := (m3.more (fun _ _ e => e.elim .inl (fun e => .inr (.inl e)))).trans t67 (fun _ _ e => .inr (.inr e))
      have hr5 := hT.mrep.root.turned m3 (by
        rintro x (e | e)
        · subst e; exact hT.blk.not8 (by decide)
        · subst e; exact HCu.out.not8 (by decide))
      have hpb5 : ∀ {g : Nat} {t : TypeId} {cs : Array Value}, Blk w5 g t cs → ¬ g = T.pb := by
        rintro g t cs hg e
        obtain ⟨vm, hvm, _⟩ := hT.map.imap
        have hv5 := hvm.turned m3 (by
          rintro (e | e)
          · exact hvm.ne_blk hT.blk e
          · exact hvm.ne_blk HCu.out e)
        exact hv5.ne_blk hg e.symm
      have h85 : ∀ x, x = T.pb → Not8 5 w5 x := by
        rintro x e
        subst e
        obtain ⟨vm, hvm, _⟩ := hT.map.imap
        exact (hvm.turned m3 (by
          rintro (e | e)
          · exact hvm.ne_blk hT.blk e
          · exact hvm.ne_blk HCu.out e)).not8
      obtain ⟨Cu5, hCu5, _⟩ := m2.blk
      have hb1 : Blk w7 T.b 97 (T.head.setIfInBounds 3 (.bool true)) := m1.turned t67 (hpb5 m1)
      have hub7 : BoolsAt w7 T.M.ub T.M.used.length T.M.uc (T.M.used.set q true) := m2.turned t67 (hpb5 hCu5)
      have hr7 := hr5.turned t67 h85
      refine ⟨rfl, hP.txStep htx ht3 rfl rfl rfl (by show (T.M.used.set q true).length = _; rw [List.length_set]) ⟨?_, ⟨?_, hr7, hT.mrep.rl⟩, hm7⟩ ?_, ht3⟩
      · have : (T.took q).head = T.head.setIfInBounds 3 (.bool true) := by
          unfold TxG.head TxG.took
          simp
        rw [this]; exact hb1
      · show BoolsAt w7 T.M.ub (T.M.used.set q true).length T.M.uc (T.M.used.set q true)
        rw [List.length_set]; exact hub7
      · intro n' l' e
        have e' : pput T.f (q : Int) (zeros 512) n' = some l' := e
        unfold pput at e'
        split at e'
        · rename_i he; injection e' with e'; subst e'; subst he
          exact ⟨by omega, by omega, zeros_len 512⟩
        · exact (hP.txul T htx).2.2.2.2 n' l' e'
end Go.Proofs.Ytliakkpmmmgmhaa
