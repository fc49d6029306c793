/- A new pool; what Pages tells. -/
import Derived.Test.YtliakkpmmmgmhaaPool4
import Derived.Test.YtliakkpmmmgmhaaCatFrame
import Derived.Carry
import Derived.OneCell
namespace Go.Proofs.Ytliakkpmmmgmhaa
open Go.RowKit

/-- A pool of so many empty frames. -/
def emptyG (p fb mb cap : Nat) (C : Array Value) (k : Nat) : PoolG := { p := p, fb := fb, mb := mb, cap := cap, C := C, L := List.replicate k noFrm, hand := 0, hits := 0, misses := 0, m := [] }
def NewPool (w : World) (k : Nat) (e : Ending) (w' : World) : Prop :=
  ∃ (p fb mb cap : Nat) (C : Array Value), e = .returned (.tuple #[.pointer (some ⟨p, 0, none⟩), .int .i64 0]) ∧ PoolRep w' (emptyG p fb mb cap C k) ∧ Below w.heap.size w w' ∧ w.heap.size ≤ p ∧ w.heap.size ≤ fb ∧ w.heap.size ≤ mb

theorem ownsRow_less {w : World} {b b' : Nat} {e : TypeId} {size n : Nat} {v : Value} {xs : List Value} (h : w.ownsRow b e size v n xs) (hle : b' ≤ b) : w.ownsRow b' e size v n xs := by
  obtain ⟨h1, h2⟩ := h
  exact ⟨h1, h2.imp id fun ⟨g, cap, cur, he, hb, hr⟩ => ⟨g, cap, cur, he, Nat.le_trans hle hb, hr⟩⟩
def noCells : List Value := [.int .i64 (-1), .bool false, .slice none 0 0]
def rep3 (k : Nat) : List Value := (List.replicate k noCells).flatten
theorem rep3_succ (k : Nat) : rep3 k ++ noCells = rep3 (k + 1) := by
  unfold rep3; rw [List.replicate_succ', List.flatten_append]; simp
theorem rep3_len (k : Nat) : (rep3 k).length = k * 3 := by
  induction k with
  | zero => rfl
  | succ k ih => rw [← rep3_succ, List.length_append, ih]; show k * 3 + 3 = _; omega
theorem rep3_at : ∀ (k i q : Nat), i < k → q < 3 → (rep3 k)[i * 3 + q]? = noCells[q]? := by
  intro k
  induction k with
  | zero => intro i q h; omega
  | succ k ih =>
    intro i q h hq
    rw [← rep3_succ]
    have hl := rep3_len k
    by_cases e : i < k
    · rw [List.getElem?_append_left (by omega)]; exact ih i q e hq
    · rw [List.getElem?_append_right (by omega), hl, show i * 3 + q - k * 3 = q by omega]
theorem rep3_one (k : Nat) : ∀ u ∈ rep3 k, u.oneCell' = true := by
  intro u hu
  unfold rep3 at hu
  obtain ⟨l, hl, hu⟩ := List.mem_flatten.1 hu
  rw [List.mem_replicate] at hl
  rw [hl.2] at hu
  simp [noCells] at hu
  rcases hu with rfl | rfl | rfl <;> rfl

/-- What is there while the frames are made. -/
def Making (w : World) (p mb : Nat) (k : Nat) (wr : World) : Prop :=
  ∃ v, Blk wr p 61 #[v, .int .i64 0, .map (some mb), .int .i64 0, .int .i64 0] ∧ IMap wr mb [] ∧ wr.ownsRow w.heap.size 64 3 v k (rep3 k) ∧ Below w.heap.size w wr ∧ w.heap.size ≤ p ∧ w.heap.size ≤ mb

set_option maxRecDepth 100000 in
set_option maxHeartbeats 1000000 in
theorem new_bad (k : Int) (w : World) (h : k < 1 ∨ 64 < k) : Calls Try.prog 9 #[.int .i64 k] w fun e w' => e = .returned (.tuple #[.pointer none, .int .i64 1]) ∧ w = w' := by
  rcases h with h | h
  · go_enter Try.func9, Try.ntmps9
    go_wp2
    go_ret2
    exact ⟨rfl, rfl⟩
  · have h' : ¬ k < 1 := by omega
    go_enter Try.func9, Try.ntmps9
    go_wp2
    go_ret2
    exact ⟨rfl, rfl⟩

set_option maxRecDepth 100000 in
set_option maxHeartbeats 4000000 in
theorem new_c (k : Nat) (w : World) (h0 : 1 ≤ k) (h1 : k ≤ 64) : Calls Try.prog 9 #[.int .i64 k] w (NewPool w k) := by
  have hmm := @run_makeMap Try.prog 58
  go_enter Try.func9, Try.ntmps9
  go_wp2_with fail
  have hM0 : Making w (w.heap.size + 1) w.heap.size 0 ((w.alloc (.map #[] 0)).alloc (.cells #[.slice none 0 0, .int .i64 0, .map (some w.heap.size), .int .i64 0, .int .i64 0] 61)) := by
    refine ⟨.slice none 0 0, ?_, (IMap.made w).alloc _, World.ownsRow_nil _ _ _ _, ((Below.refl _ _).alloc (Nat.le_refl _) _).alloc (by simp) _, by omega, Nat.le_refl _⟩
    have := Blk.new (w.alloc (.map #[] 0)) 61 #[.slice none 0 0, .int .i64 0, .map (some w.heap.size), .int .i64 0, .int .i64 0]
    simpa using this
  have HM0 := Lib.hid hM0
  clear hM0 hmm
  go_loopw [15] (fun i wr => ∃ j : Nat, j ≤ k ∧ i = .int .i64 j ∧ Hid (Making w (w.heap.size + 1) w.heap.size j wr)) (fun i _ => k - (intOf i).toNat)
  case atStart => exact ⟨0, Nat.zero_le _, rfl, HM0.out⟩
  case round =>
    clear HM0
    obtain ⟨j, hj, rfl, HM⟩ := hrel
    obtain ⟨v, hbp, hbm, hown, hbel, hp, hmb⟩ := HM.out
    obtain ⟨A, c, rfl, hfresh⟩ := own_form hown
    have c0 : wr.cell? ⟨w.heap.size + 1, 0, none⟩ = some (.slice A j c) := hbp.cell 0
    have hlt := hbp.lt
    have HR := Lib.hid (And.intro hbp (And.intro hbm (And.intro hown (And.intro hbel hfresh))))
    clear HM hbp hbm hown hbel hp hmb hfresh
    by_cases hjk : j < k
    · go_wp2_with fail
      have hA := HR.out.2.2.1
      have hBelow2 : Below wr.heap.size wr ((wr.alloc (.cells #[.int .i64 (-1), .bool false, .slice none 0 0] 64)).alloc (.cells #[.slice A j c, .slice (some ⟨wr.heap.size, 0, none⟩) 1 1] 59)) := ((Below.refl _ _).alloc (Nat.le_refl _) _).alloc (by simp) _
      have hb1 : Blk ((wr.alloc (.cells #[.int .i64 (-1), .bool false, .slice none 0 0] 64)).alloc (.cells #[.slice A j c, .slice (some ⟨wr.heap.size, 0, none⟩) 1 1] 59)) wr.heap.size 64 #[.int .i64 (-1), .bool false, .slice none 0 0] := (Blk.new wr _ _).alloc _
      have hb2 : Blk ((wr.alloc (.cells #[.int .i64 (-1), .bool false, .slice none 0 0] 64)).alloc (.cells #[.slice A j c, .slice (some ⟨wr.heap.size, 0, none⟩) 1 1] 59)) (wr.heap.size + 1) 59 #[.slice A j c, .slice (some ⟨wr.heap.size, 0, none⟩) 1 1] := by
        have := Blk.new (wr.alloc (.cells #[.int .i64 (-1), .bool false, .slice none 0 0] 64)) 59 #[.slice A j c, .slice (some ⟨wr.heap.size, 0, none⟩) 1 1]
        simpa using this
      have hrd1 := (Rd.of_own hA).below hBelow2
      have hrd2 := Rd.of_blk (n := 1) (c := 1) (sz := 3) hb1 (Nat.le_refl _) (by simp [maxLen]) (by simp)
      have hcall := CatFrame.concat_c (wr.heap.size + 1) 2 #[.slice A j c, .slice (some ⟨wr.heap.size, 0, none⟩) 1 1] [⟨A, j, c, rep3 j⟩, ⟨some ⟨wr.heap.size, 0, none⟩, 1, 1, noCells⟩] _ hb2
        (by intro i p hp; match i, hp with
            | 0, hp => simp at hp; subst hp; rfl
            | 1, hp => simp at hp; subst hp; rfl)
        (by intro p hp; simp at hp; rcases hp with rfl | rfl
            · exact hrd1
            · exact hrd2)
        (by intro p hp; simp at hp; rcases hp with rfl | rfl
            · exact rep3_one j
            · exact fun u hu => rep3_one 1 u (by simpa [rep3] using hu))
        (by simp) (by simp [total]; omega)
      refine hcall.mono ?_
      clear hcall hrd1 hrd2 hb1 hb2 hA
      rintro e w2 ⟨A2, c2, rfl, hown2, hbel2⟩
      have hbel3 : Below wr.heap.size wr w2 := hBelow2.trans (hbel2.mono (by simp; omega))
      have hbp2 := HR.out.1.below hbel3 hlt
      have d0 : w2.cell? ⟨w.heap.size + 1, 0, none⟩ = some (.slice A j c) := hbp2.cell 0
      have g0 := hbp2.frozen 0
      have hown3 : w2.ownsRow w.heap.size 64 3 (.slice A2 (j + 1) c2) (j + 1) (rep3 (j + 1)) := by
        have e1 : total [⟨A, j, c, rep3 j⟩, ⟨some ⟨wr.heap.size, 0, none⟩, 1, 1, noCells⟩] = j + 1 := by simp [total]
        have e2 : allXs [⟨A, j, c, rep3 j⟩, ⟨some ⟨wr.heap.size, 0, none⟩, 1, 1, noCells⟩] = rep3 (j + 1) := by rw [← rep3_succ]; simp [allXs]
        rw [e1, e2] at hown2
        exact ownsRow_less hown2 (by have := HR.out.2.2.2.1.size; simp; omega)
      have e1 : total [⟨A, j, c, rep3 j⟩, ⟨some ⟨wr.heap.size, 0, none⟩, 1, 1, noCells⟩] = j + 1 := by simp [total]
      rw [e1]
      have HN := Lib.hid (And.intro hbel3 (And.intro hbp2 hown3))
      clear e1 hBelow2 hown2 hbel2 hbel3 hbp2 hown3
      go_wp2_with fail
      go_roundw
      case rel =>
        refine ⟨j + 1, by omega, by go_num, .slice A2 (j + 1) c2, ?_, ?_, ?_, ?_, by omega, Nat.le_refl _⟩
        · exact HN.out.2.1.set_ 0 _
        · exact (HR.out.2.1.turned (Turned.of_below (S := fun _ => False) HN.out.1) id).setCell _ _
        · exact ownsRow_setCell_other HN.out.2.2 (by
            rcases HN.out.2.2.2 with ⟨he, _⟩ | ⟨g, cap, cur, he, _, hg, _⟩
            · rw [he]; simp [Value.ownBlock]
            · rw [he]; simp only [Value.ownBlock]
              intro e; injection e with e
              exact Blk.ne_ (t := 64) hg HN.out.2.1 (by decide) e) _
        · exact (HR.out.2.2.2.1.trans (HN.out.1.mono HR.out.2.2.2.1.size)).setCell (p := ⟨w.heap.size + 1, 0, none⟩) (by show _ ≤ _ + 1; omega) _
      case measure => simp [intOf]; omega
    · obtain rfl : j = k := by omega
      go_wp2_with fail
      go_ret2
      obtain ⟨hbp, hbm, hown, hbel, hfresh⟩ := HR.out
      rcases hown.2 with ⟨_, h0⟩ | ⟨g, cap, cur, he, hb, hg, hnc, hcm, hcs, htk⟩
      · omega
      · injection he with e1 _ e3
        subst e1; subst e3
        refine ⟨w.heap.size + 1, g, w.heap.size, c, cur, rfl, ?_, hbel, by omega, hb, Nat.le_refl _⟩
        have hat : ∀ (i : Nat) (f : Frm), (List.replicate j noFrm)[i]? = some f → i < j ∧ f = noFrm := by
          intro i f hf
          rw [List.getElem?_replicate] at hf
          split at hf
          · exact ⟨by assumption, (Option.some.inj hf).symm⟩
          · cases hf
        refine ⟨by simpa [PoolG.head, emptyG] using hbp, hg, hbm, ?_, hcs, by simpa [emptyG] using hnc, hcm, by simp [emptyG]; omega, by simpa [emptyG] using h1, by simp [emptyG]; omega, ?_, ?_, ?_, ?_, ?_⟩
        · intro i f hf
          obtain ⟨hi, rfl⟩ := hat i f hf
          have key : ∀ q, q < 3 → cur[i * 3 + q]? = noCells[q]? := by
            intro q hq
            have h1 : (cur.toList.take (j * 3))[i * 3 + q]? = (rep3 j)[i * 3 + q]? := by rw [htk]
            rw [List.getElem?_take_of_lt (by omega)] at h1
            rw [← Array.getElem?_toList, h1]
            exact rep3_at j i q hi hq
          exact ⟨key 0 (by omega), key 1 (by omega), key 2 (by omega)⟩
        · intro n v
          constructor
          · intro h; cases h
          · rintro ⟨i, f, hf, h2, h3, _⟩
            obtain ⟨_, rfl⟩ := hat i f hf
            have : (-1 : Int) = n := h2
            omega
        · intro f hf
          have := (List.mem_replicate.1 hf).2
          subst this; exact ⟨by decide, by decide⟩
        · intro a b f g hf hg h2 h3
          obtain ⟨_, rfl⟩ := hat a f hf
          exact absurd h3 (by decide)
        · intro f hf
          have := (List.mem_replicate.1 hf).2
          subst this; exact Bs.nil _ _
        · intro f hf
          have := (List.mem_replicate.1 hf).2
          subst this; exact Nat.zero_le _
end Go.Proofs.Ytliakkpmmmgmhaa
