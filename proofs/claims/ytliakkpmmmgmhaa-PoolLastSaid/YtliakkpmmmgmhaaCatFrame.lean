/- slices.Grow and slices.Concat at one element type. -/
import Derived.Test.YtliakkpmmmgmhaaRd
import Derived.Test.YtliakkpmmmgmhaaClone
namespace Go.Proofs.Ytliakkpmmmgmhaa.CatFrame
open Go.RowKit

theorem info : (Try.prog.info? 64).map (fun i => (i.zero, i.size, i.bytes)) = some (some (.agg #[.int .i64 0, .bool false, .slice none 0 0]), 3, 40) := by kernel_rfl
/-- Room for elements of one's own. -/
def Grown0 (w : World) (e : Ending) (w' : World) : Prop := ∃ A c, e = .returned (.slice A 0 c) ∧ w'.ownsRow w.heap.size 64 3 (.slice A 0 c) 0 [] ∧ Below w.heap.size w w'

set_option maxRecDepth 100000 in
set_option maxHeartbeats 1000000 in
theorem grow_c (n : Nat) (w : World) (hn : n ≤ 1000000) : Calls Try.prog 53 #[.slice none 0 0, .int .i64 n] w (Grown0 w) := by
  have HI := Lib.hid (info_parts info)
  rcases Nat.eq_zero_or_pos n with rfl | hpos
  · go_enter Try.func53, Try.ntmps53
    go_wp2
    go_ret
    exact ⟨none, 0, rfl, World.ownsRow_nil _ _ _ _, Below.refl _ _⟩
  · go_enter Try.func53, Try.ntmps53
    go_wp2_with (
      (refine at_dst 22 rfl ?_)
      obtain ⟨i0, hi, hz, hs, hb⟩ := HI.out
      (refine Lib.wpList_append_run _ rfl (.tmp 20) (.tmp 21) 59 3 rfl (.slice none 0 0) (.int .i64 n) rfl rfl _ _ (Lib.run_append_nil_zeros w 59 3 _ 64 i0 _ .i64 .i64 Try.underlying59 Try.underlying3 hi hz n hpos (by rw [hs]; decide) (by omega) (by rw [hb]; omega)) ?_)
      have hcap := grownCap_ge w n 0 64
      have hmax := grownCap_le_maxLen w n 0 64 (by simp only [maxLen]; omega)
      have hsz : (Builtin.zeroCells (.agg #[.int .i64 0, .bool false, .slice none 0 0] : Value).cells n ++ Builtin.zeroCells (.agg #[.int .i64 0, .bool false, .slice none 0 0] : Value).cells (grownCap w n 0 64 - n)).size = grownCap w n 0 64 * 3 := by
        rw [Array.size_append, size_zeroCells, size_zeroCells, ← Nat.add_mul]
        show (n + (grownCap w n 0 64 - n)) * 3 = _
        rw [show n + (grownCap w n 0 64 - n) = grownCap w n 0 64 by omega]
      generalize grownCap w n 0 64 = cap at *
      generalize Builtin.zeroCells (.agg #[.int .i64 0, .bool false, .slice none 0 0] : Value).cells n ++ Builtin.zeroCells (.agg #[.int .i64 0, .bool false, .slice none 0 0] : Value).cells (cap - n) = cells at *
      have HS := Lib.hid (And.intro hsz hmax)
      clear hsz hmax hi hz hs hb)
    go_ret
    exact ⟨_, _, rfl, World.ownsRow_made w.drew cells cap (Nat.le_refl _) HS.out.2 HS.out.1, ((Below.refl _ _).drew).alloc (Nat.le_refl _) _⟩

/-- What is put together, in a row of its own. -/
def Put (w : World) (n : Nat) (xs : List Value) (e : Ending) (w' : World) : Prop := ∃ A c, e = .returned (.slice A n c) ∧ w'.ownsRow w.heap.size 64 3 (.slice A n c) n xs ∧ Below w.heap.size w w'

set_option maxRecDepth 100000 in
set_option maxHeartbeats 2000000 in
theorem concat_c (pb cap : Nat) (C : Array Value) (ps : List Part) (w : World) (hb : Blk w pb 59 C) (hC : ∀ (j : Nat) (p : Part), ps[j]? = some p → C[j]? = some (partVal p)) (hr : ∀ p ∈ ps, Rd 64 3 w p.A p.n p.c p.xs) (h1 : ∀ p ∈ ps, ∀ u ∈ p.xs, u.oneCell' = true)
    (hk : ps.length ≤ 10) (hn : total ps ≤ 1000000) : Calls Try.prog 25 #[.slice (some ⟨pb, 0, none⟩) ps.length cap] w (Put w (total ps) (allXs ps)) := by
  have HI := Lib.hid (info_parts info)
  have HB := Lib.hid (And.intro hb (And.intro hC (And.intro hr h1)))
  have hlt := hb.lt
  clear hb hC hr h1
  go_enter Try.func25, Try.ntmps25
  go_wp2
  go_loop [3, 11] (fun s i => ∃ k : Nat, k ≤ ps.length ∧ i = .int .i64 k ∧ s = .int .i64 (total (ps.take k))) (fun _ i => ps.length - (intOf i).toNat)
  case atStart => exact ⟨0, Nat.zero_le _, rfl, rfl⟩
  case round =>
    obtain ⟨k, hk2, rfl, rfl⟩ := hrel
    have hle := total_take_le ps k
    by_cases hlk : k < ps.length
    · obtain ⟨p, hp⟩ : ∃ p, ps[k]? = some p := ⟨_, List.getElem?_eq_getElem hlk⟩
      have c0 : w.cell? ⟨pb, k, none⟩ = some (.slice p.A p.n p.c) := (HB.out.1.cell k).trans (HB.out.2.1 k p hp)
      have hnext := take_snoc' hp
      have hle2 := total_take_le ps (k + 1)
      rw [hnext, total_snoc] at hle2
      have HN := Lib.hid hnext
      clear hnext hp
      have hs0 : (0 : Int) ≤ (total (ps.take k) : Int) + p.n := by omega
      go_wp2_with fail
      go_round
      case rel => exact ⟨k + 1, by omega, by go_num, by rw [HN.out, total_snoc]; go_num⟩
      case measure => simp [intOf]; omega
    · obtain rfl : k = ps.length := by omega
      rw [List.take_length]
      go_wp2_with fail
      refine (grow_c _ _ (by omega)).mono ?_
      rintro e w1 ⟨A, c, rfl, hown, hbel⟩
      have H1 := Lib.hid (And.intro hown hbel)
      clear hown hbel hle
      go_wp2_with fail
      go_loopw [6, 27] (fun v i wr => ∃ k : Nat, k ≤ ps.length ∧ i = .int .i64 k ∧ Hid (wr.ownsRow w.heap.size 64 3 v (total (ps.take k)) (allXs (ps.take k))) ∧ Hid (Below w.heap.size w wr)) (fun _ i _ => ps.length - (intOf i).toNat)
      case atStart => exact ⟨0, Nat.zero_le _, rfl, H1.out.1, H1.out.2⟩
      case round =>
        clear H1
        obtain ⟨k, hk3, rfl, HO, HW⟩ := hrel
        have hle := total_take_le ps k
        by_cases hlk : k < ps.length
        · obtain ⟨p, hp⟩ : ∃ p, ps[k]? = some p := ⟨_, List.getElem?_eq_getElem hlk⟩
          obtain ⟨A1, c1, rfl, hfresh⟩ := own_form HO.out
          have hmem := List.mem_of_getElem? hp
          have c0 : wr.cell? ⟨pb, k, none⟩ = some (.slice p.A p.n p.c) := ((HB.out.1.below HW.out hlt).cell k).trans (HB.out.2.1 k p hp)
          have hnext := take_snoc' hp
          have hle2 := total_take_le ps (k + 1)
          rw [hnext, total_snoc] at hle2
          have hrd := (HB.out.2.2.1 p hmem).below HW.out
          have h1 := HB.out.2.2.2 p hmem
          have HN := Lib.hid (And.intro hnext (And.intro hrd (And.intro h1 hfresh)))
          clear hnext hp hrd h1 hmem hfresh
          go_wp2_with (
            (refine at_dst 33 rfl ?_)
            obtain ⟨i0, hi, hz, hs, hb⟩ := HI.out
            (refine wpList_append_rd rfl (.tmp 31) (.tmp 32) 59 rfl Try.underlying59 hi hz hs hb rfl (by decide) w.heap.size (.slice A1 (total (ps.take k)) c1) rfl HO.out rfl HN.out.2.1 HN.out.2.2.1 (by simp only [maxLen]; omega) (by omega) HW.out.size ?_)
            intro v2 w2 hown2 hgr2 _
            have HO2 := Lib.hid hown2
            have HW2 := Lib.hid (HW.out.grown hgr2 HW.out.size HN.out.2.2.2)
            clear hown2 hgr2 hi hz hs hb)
          go_roundw
          case rel => exact ⟨k + 1, by omega, by go_num, by rw [HN.out.1, total_snoc, allXs_snoc]; exact HO2.out, HW2⟩
          case measure => simp [intOf]; omega
        · obtain rfl : k = ps.length := by omega
          rw [List.take_length] at HO
          obtain ⟨A1, c1, rfl, _⟩ := own_form HO.out
          go_wp2_with fail
          go_ret
          exact ⟨A1, c1, rfl, HO.out, HW.out⟩
end Go.Proofs.Ytliakkpmmmgmhaa.CatFrame
