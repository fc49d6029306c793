/- What Pages and Counts of a pool tell. -/
import Derived.Test.YtliakkpmmmgmhaaPool5
namespace Go.Proofs.Ytliakkpmmmgmhaa
open Go.RowKit

theorem infoInt : (Try.prog.info? 3).map (fun i => (i.zero, i.size, i.bytes)) = some (some (.int .i64 0), 1, 8) := by kernel_rfl
def pagesOf (L : List Frm) : List Value := L.map (fun f => Value.int .i64 f.page)
def GivesPages (w : World) (L : List Frm) (e : Ending) (w' : World) : Prop :=
  ∃ A c, e = .returned (.slice A L.length c) ∧ w'.ownsRow w.heap.size 3 1 (.slice A L.length c) L.length (pagesOf L) ∧ Below w.heap.size w w'

set_option maxRecDepth 100000 in
set_option maxHeartbeats 1000000 in
theorem pages_none (w : World) : Calls Try.prog 12 #[.pointer none] w fun e w' => e = .returned (.slice none 0 0) ∧ w = w' := by
  go_enter Try.func12, Try.ntmps12
  go_wp2
  go_ret
  exact ⟨rfl, rfl⟩
set_option maxRecDepth 100000 in
set_option maxHeartbeats 1000000 in
theorem counts_none (w : World) : Calls Try.prog 15 #[.pointer none] w fun e w' => e = .returned (.tuple #[.int .i64 0, .int .i64 0]) ∧ w = w' := by
  go_enter Try.func15, Try.ntmps15
  go_wp2
  go_ret2
  exact ⟨rfl, rfl⟩

set_option maxRecDepth 100000 in
set_option maxHeartbeats 2000000 in
theorem pages_c (G : PoolG) (w : World) (h : PoolRep w G) : Calls Try.prog 12 #[.pointer (some ⟨G.p, 0, none⟩)] w (GivesPages w G.L) := by
  have c0 : w.cell? ⟨G.p, 0, none⟩ = some (.slice (some ⟨G.fb, 0, none⟩) G.L.length G.cap) := h.bp.cell 0
  have hlen := h.len
  have hlt := h.bf.lt
  have HH := Lib.hid (And.intro h.bf h.row)
  have HI := Lib.hid (info_parts infoInt)
  clear h
  go_enter Try.func12, Try.ntmps12
  go_wp2
  go_loopw [3, 13] (fun v i wr => ∃ k : Nat, k ≤ G.L.length ∧ i = .int .i64 k ∧ Hid (wr.ownsRow w.heap.size 3 1 v k (pagesOf (G.L.take k))) ∧ Hid (Below w.heap.size w wr)) (fun _ i _ => G.L.length - (intOf i).toNat)
  case atStart => exact ⟨0, Nat.zero_le _, rfl, World.ownsRow_nil _ _ _ _, Below.refl _ _⟩
  case round =>
    clear c0
    obtain ⟨k, hk, rfl, HO, HW⟩ := hrel
    obtain ⟨A, c, rfl, hfresh⟩ := own_form HO.out
    by_cases hkl : k < G.L.length
    · obtain ⟨f, hf⟩ : ∃ f, G.L[k]? = some f := ⟨_, List.getElem?_eq_getElem hkl⟩
      obtain ⟨r0, r1, r2⟩ := HH.out.2 k f hf
      have hb2 := HH.out.1.below HW.out hlt
      have c0 : wr.cell? ⟨G.fb, k * 3, none⟩ = some (.int .i64 f.page) := (hb2.cell _).trans r0
      have c1 : wr.cell? ⟨G.fb, k * 3 + 1, none⟩ = some (.bool f.mark) := (hb2.cell _).trans r1
      have c2 : wr.cell? ⟨G.fb, k * 3 + 2, none⟩ = some (.slice f.A f.n f.c) := (hb2.cell _).trans r2
      have HF := Lib.hid (And.intro (take_snoc' hf) hfresh)
      clear hf r0 r1 r2 hb2 hfresh
      go_wp2_with (
        (refine at_dst 21 rfl ?_)
        obtain ⟨i0, hi, hz, hs, hb⟩ := HI.out
        (refine wpList_append_rd rfl (.tmp 17) (.tmp 20) 22 rfl Try.underlying22 hi hz hs hb rfl (by decide) w.heap.size (.slice A k c) rfl ((HO.out.alloc _).alloc _) rfl
          (Rd.of_blk (n := 1) (c := 1) (sz := 1) (cs := #[.int .i64 f.page]) (by simpa using Blk.new (wr.alloc (.cells #[.int .i64 f.page, .bool f.mark, .slice f.A f.n f.c] 64)) 3 #[.int .i64 f.page]) (Nat.le_refl _) (by simp [maxLen]) (by simp)) (by simp [Value.oneCell']) (by simp only [maxLen]; omega) (by omega) (by have := HW.out.size; simp; omega) ?_)
        intro v2 w2 hown2 hgr2 _
        have HO2 := Lib.hid hown2
        have HW2 := Lib.hid (((HW.out.alloc HW.out.size _).alloc (by have := HW.out.size; simp; omega) _).grown hgr2 (by have := HW.out.size; simp; omega) HF.out.2)
        clear hown2 hgr2 hi hz hs hb)
      go_roundw
      case rel => exact ⟨k + 1, by omega, by go_num, by rw [HF.out.1, show pagesOf (G.L.take k ++ [f]) = pagesOf (G.L.take k) ++ [Value.int .i64 f.page] by simp [pagesOf]]; exact HO2.out, HW2⟩
      case measure => simp [intOf]; omega
    · obtain rfl : k = G.L.length := by omega
      rw [List.take_length] at HO
      go_wp2_with fail
      go_ret
      exact ⟨A, c, rfl, HO.out, HW.out⟩
end Go.Proofs.Ytliakkpmmmgmhaa
