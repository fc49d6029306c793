/- slices.Clone of bytes: the same bytes in a block of its own. -/
import Derived.Test.YtliakkpmmmgmhaaProg
import Derived.Test.YtliakkpmmmgmhaaBytes
import Derived.Outline
import Derived.WalkSpells
import Derived.Deep.LoopGhost
import Derived.Deep.QuietTactic
import Derived.BigQuiet
import Derived.Deep.DeepCutAuto
import Derived.Deep.CutBlock
import Derived.Deep.RegionHeld3
namespace Go.Proofs.Ytliakkpmmmgmhaa
open Go.RowKit

theorem info8 : (Try.prog.info? 5).map (fun i => (i.zero, i.size, i.bytes)) = some (some (.int .u8 0), 1, 1) := by kernel_rfl
/-- A slice of bytes that the call made: it reads as l, and lies in a block that is new since w0. -/
def Fresh (w0 w' : World) (v : Value) (l : List UInt8) : Prop :=
  ∃ A n c, v = .slice A n c ∧ Bs 5 w' A n c l ∧ ∀ g o, A = some ⟨g, o, none⟩ → w0.heap.size ≤ g
theorem Fresh.of_own {w0 w' : World} {v : Value} {k : Nat} {l : List UInt8} (h : w'.ownsRow w0.heap.size 5 1 v k (u8s l)) : Fresh w0 w' v l := by
  have h' := h
  rcases h'.2 with ⟨rfl, rfl⟩ | ⟨g, cap, cur, rfl, hb, _⟩
  · exact ⟨none, 0, 0, rfl, Bs.of_own h, fun g o e => by cases e⟩
  · exact ⟨_, _, _, rfl, Bs.of_own h, fun g o e => by injection e with e; injection e with e; omega⟩
theorem Fresh.nil (w0 w' : World) : Fresh w0 w' (.slice none 0 0) [] := ⟨none, 0, 0, rfl, Bs.nil _ _, fun g o e => by cases e⟩
theorem Fresh.turned {w0 w' w'' : World} {v : Value} {l : List UInt8} {S : Nat → Prop} (h : Fresh w0 w' v l) (k : Turned S w' w'') (hS : ∀ k, S k → Not8 5 w' k) : Fresh w0 w'' v l := by
  obtain ⟨A, n, c, rfl, hb, hf⟩ := h
  exact ⟨A, n, c, rfl, hb.turned k hS, hf⟩
theorem Fresh.older {w0 w0' w' : World} {v : Value} {l : List UInt8} (h : Fresh w0' w' v l) (hs : w0.heap.size ≤ w0'.heap.size) : Fresh w0 w' v l := by
  obtain ⟨A, n, c, rfl, hb, hf⟩ := h
  exact ⟨A, n, c, rfl, hb, fun g o e => Nat.le_trans hs (hf g o e)⟩
/-- A call tells a slice of bytes of its own, and turns nothing. -/
def GivesBytes (w : World) (l : List UInt8) (e : Ending) (w' : World) : Prop := ∃ v, e = .returned v ∧ Fresh w w' v l ∧ Below w.heap.size w w'

set_option maxHeartbeats 1000000 in
set_option maxRecDepth 100000 in
theorem clone_c {tb : TypeId} (A : Option Addr) (n c : Nat) (l : List UInt8) (w : World) (h : Bs tb w A n c l) (hn : n ≤ 140737488351232) :
    Calls Try.prog 27 #[.slice A n c] w (GivesBytes w l) := by
  have HH := Lib.hid h
  have HN := Lib.hid hn
  clear h hn
  have hq := fun W => Lib.run_eql_slice_nil (P := Try.prog) W 31 5 A n c 0 0 Try.underlying31
  obtain ⟨i0, hi, hz, hs, hb⟩ := info_parts info8
  have HI := Lib.hid (And.intro hi (And.intro hz (And.intro hs hb)))
  clear hi hz hs hb
  cases A with
  | none =>
    go_enter Try.func27, Try.ntmps27
    go_wp2
    go_ret
    obtain rfl : l = [] := by
      have hl := HH.out.len
      rcases HH.out.row with h0 | ⟨g, o, cs, fr, hA, _⟩
      · exact List.eq_nil_of_length_eq_zero (by omega)
      · cases hA
    exact ⟨_, rfl, Fresh.nil _ _, Below.refl _ _⟩
  | some ad =>
    go_enter Try.func27, Try.ntmps27
    go_wp2_with (
      (refine at_dst 7 rfl ?_)
      (refine wpList_append_bs rfl (.tmp 5) (.tmp 6) 31 rfl Try.underlying31 HI.out.1 HI.out.2.1 HI.out.2.2.1 HI.out.2.2.2 w.heap.size (.slice (some ⟨w.heap.size, 0, none⟩) 0 0) rfl (World.ownsRow_made w #[] 0 (Nat.le_refl _) (Nat.zero_le _) rfl) rfl (HH.out.alloc _) (by have := HN.out; omega) (by simp) ?_)
      intro v1 w1 hown1 hgr1 hat1)
    go_ret
    refine ⟨_, rfl, Fresh.of_own (k := 0 + n) (by simpa using hown1), ?_⟩
    exact ((Below.refl _ _).alloc (Nat.le_refl _) _).grown hgr1 (by simp) (by simp [Value.ownBlock])
end Go.Proofs.Ytliakkpmmmgmhaa
