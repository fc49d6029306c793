/- Parts of the proof, put together: Pg0, Pg1, Pmap, Pg2, Pg3, Pg4, Pg5, Pg6. -/
import Derived.Test.YtliakkpmmmgmhaaMRowPagerMost4
import Derived.Lib.AppendZerosOnto
import Derived.Test.YtliakkpmmmgmhaaMRowPagerMost1
/- Noughts appended onto bytes of one's own; how many pages a transaction may put; a store's label. -/
namespace Go.Proofs.Ytliakkpmmmgmhaa
open Go.RowKit

theorem zeroCells_u8 (k : Nat) : Builtin.zeroCells (Value.int .u8 0).cells k = (u8s (zeros k)).toArray := by
  apply Array.toList_inj.1
  apply List.ext_getElem?
  intro j
  simp only [Builtin.zeroCells, u8s, zeros, Value.cells]
  by_cases hj : j < k
  · simp [hj, Nat.mod_one]
  · simp [hj]
theorem run_append_zeros_own {w : World} {b0 : Nat} {ty tn : TypeId} {kq kn : IntKind} (htn : Try.prog.underlying tn = some (.int kn)) {v : Value} {n k : Nat} {l : List UInt8} (hown : w.ownsRow b0 5 1 v n (u8s l)) (hk : 0 < k) (hm : n + k ≤ 1000000000) (hb : b0 ≤ w.heap.size) :
    ∃ v' w', (Builtin.append_ #[31, tn] ty #[v, .int kq k]).run Try.prog w = .ok v' w' ∧ w'.ownsRow b0 5 1 v' (n + k) (u8s (l ++ zeros k)) ∧ w.grownBy w' v.ownBlock := by
  obtain ⟨i0, hi, hz, hs, hby⟩ := info_parts info8
  have hl := hown.1
  rw [u8s_length] at hl
  have grow : ∀ (A : Option Addr) (c : Nat), c < n + k → c ≤ maxLen → (Builtin.firstCells i0.size n (.slice A n c)).run Try.prog w.drew = .ok (u8s l).toArray w.drew →
      ∃ v' w', (Builtin.append_ #[31, tn] ty #[.slice A n c, .int kq k]).run Try.prog w = .ok v' w' ∧ w'.ownsRow b0 5 1 v' (n + k) (u8s (l ++ zeros k)) ∧ w.grownBy w' (Value.slice A n c).ownBlock := by
    intro A c hc hcm hf
    have hr := Lib.run_append_grow_zeros (P := Try.prog) w 31 tn ty 5 i0 _ kq kn Try.underlying31 htn hi hz A n c (u8s l) hf k hk (by omega) hc (by omega) (by rw [hby]; omega) (growslice_fits hc (by rw [hby]; omega))
    refine ⟨_, _, hr, ?_, ⟨rfl, rfl, rfl, by simp, fun j hj _ => Below.heap_alloc w.drew _ j hj⟩⟩
    have hge := grownCap_ge w (n + k) c 5
    have hmx := grownCap_le_maxLen w (n + k) c 5 (by simp only [maxLen]; omega)
    generalize grownCap w (n + k) c 5 = cap at *
    rw [zeroCells_u8, zeroCells_u8]
    refine ⟨by rw [u8s_length, List.length_append, zeros_len]; omega, .inr ⟨w.heap.size, cap, _, rfl, hb, heap_alloc_new w.drew _, hge, hmx, ?_, ?_⟩⟩
    · simp only [Array.size_append, List.size_toArray, u8s_length, zeros_len]; omega
    · rw [Array.toList_append, Array.toList_append, u8s_append]
      have : (u8s l ++ u8s (zeros k)).length = (n + k) * 1 := by rw [List.length_append, u8s_length, u8s_length, zeros_len]; omega
      show ((u8s l ++ u8s (zeros k)) ++ _).take ((n + k) * 1) = _
      rw [← this]; exact List.take_left
  rcases hown.2 with ⟨rfl, h0⟩ | ⟨g, cap, cur, rfl, hg, hh, hnc, hcm, hcs, htk⟩
  · subst h0
    have : l = [] := List.eq_nil_of_length_eq_zero (by omega)
    subst this
    exact grow none 0 (by omega) (by simp [maxLen]) (by simp [Builtin.firstCells, u8s])
  · by_cases hroom : n + k ≤ cap
    · have hst := run_storeCells_at Try.prog g n 5 (u8s (zeros k)) 0 cur w hh (by rw [u8s_length, zeros_len]; omega) (u8s_oneCell _)
      refine ⟨.slice (some ⟨g, 0, none⟩) (n + k) cap, w.setRow g (putCs cur n (u8s (zeros k))), ?_, ?_, ⟨rfl, rfl, rfl, by simp [World.setRow], fun j _ hne => setRow_other w g j _ (fun e => hne (by rw [e]; rfl))⟩⟩
      · have hk0 : k ≠ 0 := by omega
        have hw : IntKind.i64.wrap (k : Int) = k := by rw [IntKind.wrap_i64]; omega
        have hneg : ¬ ((k : Int) < 0) := by omega
        have h48i : ¬ (281474976710656 < (k : Int)) := by omega
        have hadd : (⟨g, 0, none⟩ : Addr).add n = ⟨g, n, none⟩ := by rw [Addr.add_mid, Nat.zero_add]
        have hst2 : (storeCells ⟨g, n, none⟩ (u8s (zeros k))).run Try.prog w = .ok () (w.setRow g (putCs cur n (u8s (zeros k)))) := by
          simpa [putCs] using hst
        have hzc := zeroCells_u8 k
        simp [Builtin.append_, run_underlying (Try.underlying31), run_underlying htn, sizeOf, typeInfo, zeroValue, hi, hz, hs, hby, asInt, asIntOf, hw, hneg, h48i, hk0, hroom, hadd, hzc, hst2]
      · have hfit : n + (u8s (zeros k)).length ≤ cur.size := by rw [u8s_length, zeros_len]; omega
        refine ⟨by rw [u8s_length, List.length_append, zeros_len]; omega, .inr ⟨g, cap, _, rfl, hg, setRow_heap w g _ _ _ _ hh, hroom, hcm, by rw [putCs_size hfit]; exact hcs, ?_⟩⟩
        unfold putCs
        have h1 : cur.toList.take n = u8s l := by rw [← htk, Nat.mul_one]
        rw [h1, u8s_append]
        have : (u8s l ++ u8s (zeros k)).length = (n + k) * 1 := by rw [List.length_append, u8s_length, u8s_length, zeros_len]; omega
        show ((u8s l ++ u8s (zeros k)) ++ _).take ((n + k) * 1) = _
        rw [← this]; exact List.take_left
    · refine grow _ cap (by omega) hcm ?_
      have hc := hown.cells (g := g) rfl
      have := run_firstCells_some (P := Try.prog) (w := w.drew) i0.size n ⟨g, 0, none⟩ n cap (u8s l) (by rw [u8s_length, hs]; omega) (fun j u hu => hc j u hu)
      exact this
/-- 'append(b, make([]byte, k)...)' onto bytes of one's own. -/
theorem wpList_append_zeros {w : World} {ops : Array Oper} {rest : List Oper} {o : Oper} {a : Act} {Q : Exit → Act → World → Prop} (hgd : o.guard = none) (s x : Operand) (tn : TypeId) (hop : o.op = .call { callee := .builtin .append, args := #[s, x], argTypes := #[31, tn] })
    {kn kq : IntKind} (htn : Try.prog.underlying tn = some (.int kn)) (b0 : Nat) (v : Value) (hv : a.eval s = v) {n : Nat} {l : List UInt8} (hown : w.ownsRow b0 5 1 v n (u8s l)) (k : Nat) {K : Int} (hK : K = (k : Int)) (hx : a.eval x = .int kq K) (hk : 0 < k) (hm : n + k ≤ 1000000000) (hb : b0 ≤ w.heap.size)
    (next : ∀ v' w', w'.ownsRow b0 5 1 v' (n + k) (u8s (l ++ zeros k)) → w.grownBy w' v.ownBlock → wpList Try.prog ops Q rest (a.put o.dst v') w') : wpList Try.prog ops Q (o :: rest) a w := by
  subst hK
  obtain ⟨v', w', hrun, h1, h2⟩ := run_append_zeros_own (ty := o.type) (kq := kq) htn hown hk hm hb
  refine wpList_value hgd (w' := w') (v := v') ?_ (next v' w' h1 h2)
  simp [execOp, hop, resolve, invoke, builtin, hv, hx, hrun, Result.andThen]

/-- How many pages a transaction may put. -/
def mostM (log : Int) : Int := if log < 3 then 0 else ((min log 4096 - 2) * 512 - 16) / 516
set_option maxRecDepth 100000 in
set_option maxHeartbeats 1000000 in
theorem most_c (log : Int) (w : World) : Calls Try.prog 17 #[.int .i64 log] w fun e w' => e = .returned (.int .i64 (mostM log)) ∧ w = w' := by
  by_cases h : log < 3
  · have e : mostM log = 0 := if_pos h
    rw [e]
    clear e
    go_enter Try.func17, Try.ntmps17
    go_wp2
    go_ret
    exact ⟨rfl, rfl⟩
  · have e : mostM log = ((min log 4096 - 2) * 512 - 16) / 516 := if_neg h
    rw [e]
    clear e
    by_cases h2 : log ≤ 4096
    · have hm : min log 4096 = log := by omega
      rw [hm]
      have ht : ((log - 2) * 512 - 16).tdiv 516 = ((log - 2) * 512 - 16) / 516 := Int.tdiv_eq_ediv_of_nonneg (by omega)
      have hb1 : log ≤ 4096 := h2
      go_enter Try.func17, Try.ntmps17
      go_wp2_with fail
      go_ret
      exact ⟨rfl, rfl⟩
    · have hm : min log 4096 = 4096 := by omega
      rw [hm]
      go_enter Try.func17, Try.ntmps17
      go_wp2_with fail
      go_ret
      exact ⟨rfl, rfl⟩
def magicP : List UInt8 := [100, 111, 119, 115, 101, 114, 32, 112]
/-- The label's first 32 bytes. -/
def labelH (B n : Nat) : List UInt8 := magicP ++ (numB B ++ numB n) ++ zeros (32 - (8 + ((numB B).length + (numB n).length)))
def labelB (B n : Nat) : List UInt8 := labelH B n ++ labelH B n ++ zeros 448
theorem num2 {n : Nat} (h : n < 16384) : (numB n).length ≤ 2 := numB_len 1 n (by omega)
theorem labelH_len {B n : Nat} (hB : B < 16384) (hn : n < 16384) : (labelH B n).length = 32 := by
  have h1 := num2 hB
  have h2 := num2 hn
  unfold labelH
  rw [List.length_append, List.length_append, List.length_append, zeros_len]
  show 8 + _ + _ = 32
  omega
theorem labelB_len {B n : Nat} (hB : B < 16384) (hn : n < 16384) : (labelB B n).length = 512 := by
  unfold labelB
  rw [List.length_append, List.length_append, labelH_len hB hn, zeros_len]
theorem putCs_mid {h : List UInt8} (hl : h.length = 32) : putCs (u8s (h ++ zeros 480)).toArray 32 (u8s h) = (u8s (h ++ h ++ zeros 448)).toArray := by
  unfold putCs
  apply congrArg
  have e1 : (u8s (h ++ zeros 480)).take 32 = u8s h := by
    rw [u8s_append]
    have : (u8s h).length = 32 := by rw [u8s_length, hl]
    rw [← this]; exact List.take_left
  have e2 : (u8s (h ++ zeros 480)).drop (32 + (u8s h).length) = u8s (zeros 448) := by
    rw [u8s_append, u8s_length, hl, ← List.drop_drop]
    have : (u8s h).length = 32 := by rw [u8s_length, hl]
    rw [show (u8s h ++ u8s (zeros 480)).drop 32 = u8s (zeros 480) by rw [← this]; exact List.drop_left]
    unfold u8s zeros
    rw [List.map_replicate, List.map_replicate, List.drop_replicate]
  show (u8s (h ++ zeros 480)).take 32 ++ u8s h ++ (u8s (h ++ zeros 480)).drop (32 + (u8s h).length) = _
  rw [e1, e2, u8s_append, u8s_append]
set_option maxRecDepth 100000 in
set_option maxHeartbeats 4000000 in
theorem label_c (B n : Nat) (hB : B < 16384) (hn : n < 16384) (w : World) : Calls Try.prog 36 #[.int .i64 (B : Int), .int .i64 (n : Int)] w (GivesOwn w (labelB B n)) := by
  have kc := fun (w : World) (C : Array Value) (n c : Nat) => Lib.run_convert_bytes_const (P := Try.prog) w 31 5 C n c Try.underlying31 Try.underlying5
  have hBw : IntKind.u64.wrap (B : Int) = (B : Int) := u64_small (by omega) (by omega)
  have hnw : IntKind.u64.wrap (n : Int) = (n : Int) := u64_small (by omega) (by omega)
  have H0 := Lib.hid (And.intro hB hn)
  clear hB hn
  go_enter Try.func36, Try.ntmps36
  go_wp2_with fail
  refine (num_c B (by have := H0.out.1; omega) _).mono ?_
  rintro e w1 ⟨A1, c1, rfl, ho1, hb1⟩
  have H1 := Lib.hid (And.intro ho1 hb1)
  clear ho1 hb1
  go_wp2_with fail
  refine (num_c n (by have := H0.out.2; omega) _).mono ?_
  rintro e w2 ⟨A2, c2, rfl, ho2, hb2⟩
  have H2 := Lib.hid (And.intro ho2 hb2)
  clear ho2 hb2
  go_wp2_with fail
  have hbel : Below w.heap.size w w2 := ((Below.refl _ _).alloc (Nat.le_refl _) _).trans ((H1.out.2.mono (by simp)).trans (H2.out.2.mono (by have := H1.out.2.size; simp at this; omega)))
  have hM : Bs 5 w2 (some ⟨w.heap.size, 0, none⟩) 8 8 magicP := (Bs.made 5 w magicP _ _ rfl (by decide) rfl).below (H1.out.2.trans (H2.out.2.mono H1.out.2.size))
  have hA : Bs 5 w2 A1 (numB B).length c1 (numB B) := (Bs.of_own H1.out.1).below H2.out.2
  have hB : Bs 5 w2 A2 (numB n).length c2 (numB n) := Bs.of_own H2.out.1
  have hcat := concat_bytes w2.heap.size [(some ⟨w.heap.size, 0, none⟩, 8, 8, magicP), (A1, (numB B).length, c1, numB B), (A2, (numB n).length, c2, numB n)] (w2.alloc (.cells #[.slice (some ⟨w.heap.size, 0, none⟩) 8 8, .slice A1 (numB B).length c1, .slice A2 (numB n).length c2] 31))
    (Blk.new _ _ _) (fun p hp => by
      simp at hp
      rcases hp with rfl | rfl | rfl
      · exact hM.alloc _
      · exact hA.alloc _
      · exact hB.alloc _) (by simp) (by have := num2 H0.out.1; have := num2 H0.out.2; simp [bytesOf, magicP]; omega)
  refine hcat.mono ?_
  clear hcat
  intro e w3 hg
  have eb : bytesOf [(some ⟨w.heap.size, 0, none⟩, 8, 8, magicP), (A1, (numB B).length, c1, numB B), (A2, (numB n).length, c2, numB n)] = magicP ++ (numB B ++ numB n) := by simp [bytesOf]
  rw [eb] at hg
  obtain ⟨A3, c3, rfl, ho3, hb3⟩ := hg.older (w := w) (hbel.alloc hbel.size _)
  obtain ⟨hl, hhl⟩ : ∃ hl, hl = (magicP ++ (numB B ++ numB n)).length := ⟨_, rfl⟩
  rw [← hhl] at ho3 ⊢
  have hl2 : hl = 8 + ((numB B).length + (numB n).length) := by rw [hhl, List.length_append, List.length_append]; rfl
  obtain ⟨k, hk⟩ : ∃ k, k = 32 - hl := ⟨_, rfl⟩
  have q1 := num2 H0.out.1
  have q2 := num2 H0.out.2
  have hk1 : (32 : Int) - (hl : Int) = (k : Int) := by omega
  have hk2 : 0 < k := by omega
  have hl3 : (hl : Int) ≤ 32 := by omega
  obtain ⟨_, _, _, hfr3⟩ := own_form ho3
  have H3 := Lib.hid (And.intro ho3 (And.intro hb3 (And.intro hl2 (And.intro hk (And.intro hk2 hfr3)))))
  clear hM hA hB hbel eb hg ho3 hb3 H1 H2 kc hBw hnw hhl hl2 hk hk2 q1 q2 hfr3
  go_wp2_with (first
    | ((refine at_dst 21 rfl ?_)
       (refine wpList_append_zeros rfl (.tmp 17) (.tmp 20) 3 rfl (kn := .i64) (kq := .i64) Try.underlying3 w.heap.size _ rfl H3.out.1 k rfl rfl H3.out.2.2.2.2.1 (by have := H3.out.2.2.2.1; omega) H3.out.2.1.size ?_)
       intro v4 w4 hown4 hgr4
       have e32 : hl + k = 32 := by have := H3.out.2.2.2; omega
       have eH : (magicP ++ (numB B ++ numB n)) ++ zeros k = labelH B n := by
         have h1 := H3.out.2.2.1
         have h2 := H3.out.2.2.2.1
         unfold labelH; rw [h2, h1]
       rw [eH, e32] at hown4
       obtain ⟨A4, c4, rfl, _⟩ := own_form hown4
       have hB4 : Bs 5 w4 A4 32 c4 (labelH B n) := Bs.of_own hown4
       have H4 := Lib.hid (And.intro hB4 (H3.out.2.1.grown hgr4 H3.out.2.1.size H3.out.2.2.2.2.2))
       clear hown4 hgr4 e32 eH hB4)
    | ((refine at_dst 22 rfl ?_)
       (refine wpList_make_bs rfl (.const (.int .i64 512)) (.const (.int .i64 512)) rfl .i64 .i64 512 512 512 rfl rfl rfl rfl (by omega) ?_)
       intro w5 hb5 hbel5 hs5
       have H5 := Lib.hid (And.intro hb5 hbel5)
       clear hb5 hbel5 hs5)
    | ((refine at_dst 25 rfl ?_)
       (refine wpList_copy_bs (t := 5) (tb := 5) rfl (.tmp 23) (.tmp 24) rfl w4.heap.size 0 512 512 rfl A4 32 c4 rfl _ H5.out.1 (labelH B n) (H4.out.1.below H5.out.2) (by rw [List.size_toArray, u8s_length, zeros_len]; omega) ?_)
       intro w6 hb6 ht6 hs6
       rw [List.take_of_length_le (by rw [labelH_len H0.out.1 H0.out.2]; omega), putCs_zeros, labelH_len H0.out.1 H0.out.2] at hb6
       have hbel6 : Below w4.heap.size w4 w6 := Turned.below ((Turned.of_below (S := fun _ => False) H5.out.2).trans ht6 (fun k hk e => absurd e (by have := hk; omega)))
       have H6 := Lib.hid (And.intro hb6 hbel6)
       clear hb6 ht6 hs6 hbel6)
    | ((refine at_dst 29 rfl ?_)
       (refine wpList_copy_bs (t := 5) (tb := 5) rfl (.tmp 27) (.tmp 28) rfl w4.heap.size 32 480 480 rfl A4 32 c4 rfl _ H6.out.1 (labelH B n) (H4.out.1.below H6.out.2) (by rw [List.size_toArray, u8s_length, List.length_append, zeros_len, labelH_len H0.out.1 H0.out.2]; omega) ?_)
       intro w7 hb7 ht7 hs7
       rw [List.take_of_length_le (by rw [labelH_len H0.out.1 H0.out.2]; omega), putCs_mid (labelH_len H0.out.1 H0.out.2)] at hb7
       have hbel7 : Below w4.heap.size w4 w7 := Turned.below ((Turned.of_below (S := fun _ => False) H6.out.2).trans ht7 (fun k hk e => absurd e (by have := hk; omega)))
       have H7 := Lib.hid (And.intro hb7 hbel7)
       clear hb7 ht7 hs7 hbel7))
  go_ret
  have hlen := labelB_len H0.out.1 H0.out.2
  have hown := blk_own (l := labelB B n) (base := w.heap.size) H7.out.1 H4.out.2.size (by rw [hlen]; decide)
  rw [hlen] at hown
  exact ⟨some ⟨w4.heap.size, 0, none⟩, 512, by rw [hlen]; rfl, by rw [hlen]; exact hown, H4.out.2.trans (H7.out.2.mono H4.out.2.size)⟩
end Go.Proofs.Ytliakkpmmmgmhaa
/- The page of what is kept beside the pages: which are used, and the root. -/
namespace Go.Proofs.Ytliakkpmmmgmhaa
open Go.RowKit

/-- The bit of a page. -/
def bitAt (P : List UInt8) (i : Nat) : Bool := Nat.testBit ((P[i / 8]?).getD 0).toNat (i % 8)
/-- The bits of the first k pages. -/
def encK (used : List Bool) : Nat → List UInt8
  | 0 => zeros 512
  | k + 1 => if used[k]? = some true then (encK used k).set (k / 8) (UInt8.ofNat ((((encK used k)[k / 8]?).getD 0).toNat ||| 2 ^ (k % 8))) else encK used k
theorem encK_len (used : List Bool) : ∀ k, (encK used k).length = 512
  | 0 => zeros_len 512
  | k + 1 => by
    unfold encK
    split
    · rw [List.length_set]; exact encK_len used k
    · exact encK_len used k
theorem or_lt {a k : Nat} (ha : a < 256) (hk : k < 8) : a ||| 2 ^ k < 256 := Nat.or_lt_two_pow (n := 8) ha (Nat.pow_lt_pow_right (by decide) hk)
theorem bitAt_encK (used : List Bool) : ∀ k i, i < 4096 → bitAt (encK used k) i = (decide (i < k) && (used[i]?).getD false)
  | 0, i, hi => by
    have h1 : i / 8 < 512 := by omega
    show Nat.testBit (((zeros 512)[i / 8]?).getD 0).toNat (i % 8) = _
    unfold zeros
    rw [List.getElem?_replicate, if_pos h1]
    simp
  | k + 1, i, hi => by
    have ih := bitAt_encK used k i hi
    have hlt : ((((encK used k)[k / 8]?).getD 0).toNat) < 256 := UInt8.toNat_lt _
    by_cases hu : used[k]? = some true
    · have e : encK used (k + 1) = (encK used k).set (k / 8) (UInt8.ofNat ((((encK used k)[k / 8]?).getD 0).toNat ||| 2 ^ (k % 8))) := by
        show (if used[k]? = some true then _ else _) = _
        rw [if_pos hu]
      rw [e]
      unfold bitAt at *
      by_cases hd : k / 8 = i / 8
      · have hil : i / 8 < (encK used k).length := by rw [encK_len]; omega
        rw [hd, List.getElem?_set_self hil, Option.getD_some, u8_nat (or_lt (by rw [hd] at hlt; exact hlt) (Nat.mod_lt _ (by decide))), Nat.testBit_or, ih, Nat.testBit_two_pow]
        by_cases hik : i = k
        · subst hik; simp [hu]
        · have hm : ¬ k % 8 = i % 8 := by omega
          have hd2 : decide (i < k + 1) = decide (i < k) := by
            by_cases h : i < k
            · simp [h]; omega
            · simp [h]; omega
          rw [hd2]; simp [hm]
      · rw [List.getElem?_set_ne hd, ih]
        have : ¬ i = k := fun e => hd (by rw [e])
        have hd2 : decide (i < k + 1) = decide (i < k) := by
          by_cases h : i < k
          · simp [h]; omega
          · simp [h]; omega
        rw [hd2]
    · have e : encK used (k + 1) = encK used k := by
        show (if used[k]? = some true then _ else _) = _
        rw [if_neg hu]
      rw [e, ih]
      by_cases hik : i = k
      · subst hik
        have : (used[i]?).getD false = false := by
          cases h : used[i]? with
          | none => rfl
          | some b => cases b with
            | false => rfl
            | true => exact absurd h hu
        simp [this]
      · have hd2 : decide (i < k + 1) = decide (i < k) := by
          by_cases h : i < k
          · simp [h]; omega
          · simp [h]; omega
        rw [hd2]
theorem run_copy_bs {w : World} {tb t : TypeId} {ty : TypeId} (g off k dCap : Nat) (A : Option Addr) (n c : Nat) (B : Array Value) (hg : Blk w g t B) (l : List UInt8) (hB : Bs tb w A n c l) (hfit : off + k ≤ B.size) (hpos : 0 < n) (hk : n ≤ k) :
    (Builtin.copy_ #[31, 31] ty #[.slice (some ⟨g, off, none⟩) k dCap, .slice A n c]).run Try.prog w = .ok (goInt (n : Nat)) (w.setRow g (putCs B off (u8s l))) := by
  have hsz : (Try.prog.info? 5).map (·.size) = some 1 := by kernel_rfl
  obtain ⟨g2, o2, rfl, _⟩ := hB.lt hpos
  have hl := hB.len
  have hlen : (u8s l).length = n := by rw [u8s_length, hl]
  have := run_copy_row (P := Try.prog) w 31 31 ty 5 g off k dCap ⟨g2, o2, none⟩ n c B t (u8s l) Try.underlying31 hsz hg (by rw [hlen]; exact (Nat.min_eq_left hk).symm) (hB.news rfl) (by rw [hlen]; omega) (u8s_oneCell _)
  rw [hlen] at this
  simpa [putCs, hlen] using this
/-- The page of which pages are used, and of the root. -/
def encB (used : List Bool) (root : List UInt8) : List UInt8 := (encK used used.length).take 256 ++ (numB root.length ++ root) ++ zeros (256 - (numB root.length ++ root).length)
theorem enc_drop (used : List Bool) : ∀ k, k ≤ 2048 → (encK used k).drop 256 = zeros 256
  | 0, _ => by
    show (zeros 512).drop 256 = zeros 256
    unfold zeros; rw [List.drop_replicate]
  | k + 1, h => by
    unfold encK
    split
    · rw [List.drop_set_of_lt (by omega)]; exact enc_drop used k (by omega)
    · exact enc_drop used k (by omega)
theorem putCs_tail (P t : List UInt8) : putCs (u8s P).toArray 256 (u8s t) = (u8s (P.take 256 ++ t ++ (P.drop 256).drop t.length)).toArray := by
  unfold putCs
  apply congrArg
  have e1 : (u8s P).take 256 = u8s (P.take 256) := by unfold u8s; rw [List.map_take]
  have e2 : (u8s P).drop (256 + (u8s t).length) = u8s ((P.drop 256).drop t.length) := by
    rw [u8s_length, List.drop_drop]; unfold u8s; rw [List.map_drop]
  show (u8s P).take 256 ++ u8s t ++ (u8s P).drop (256 + (u8s t).length) = _
  rw [e1, e2, u8s_append, u8s_append]
theorem enc_tail (used : List Bool) {t : List UInt8} (k : Nat) (hk : k ≤ 2048) : (encK used k).take 256 ++ t ++ ((encK used k).drop 256).drop t.length = (encK used k).take 256 ++ t ++ zeros (256 - t.length) := by
  rw [enc_drop used k hk]
  unfold zeros; rw [List.drop_replicate]
theorem encB_len (used : List Bool) (root : List UInt8) (h : (numB root.length ++ root).length ≤ 256) : (encB used root).length = 512 := by
  unfold encB
  rw [List.length_append, List.length_append, List.length_take, encK_len, zeros_len]
  omega
theorem bitAt_encB (used : List Bool) (root : List UInt8) (i : Nat) (hi : i < used.length) (hu : used.length ≤ 2000) : bitAt (encB used root) i = (used[i]?).getD false := by
  have h1 := bitAt_encK used used.length i (by omega)
  rw [decide_eq_true hi, Bool.true_and] at h1
  rw [← h1]
  unfold bitAt encB
  congr 2
  rw [List.append_assoc, List.getElem?_append_left (by rw [List.length_take, encK_len]; omega), List.getElem?_take_of_lt (by omega)]
/-- A slice of truths. -/
structure BoolsAt (w : World) (g n c : Nat) (l : List Bool) : Prop where
  blk : ∃ C, Blk w g 4 C ∧ C.size = c ∧ ∀ (i : Nat) (b : Bool), l[i]? = some b → C[i]? = some (.bool b)
  len : l.length = n
  cap : n ≤ c
  most : c ≤ maxLen
theorem BoolsAt.cell {w : World} {g n c : Nat} {l : List Bool} (h : BoolsAt w g n c l) {i : Nat} {b : Bool} (hi : l[i]? = some b) : w.cell? ⟨g, i, none⟩ = some (.bool b) := by
  obtain ⟨C, hb, _, hc⟩ := h.blk
  exact (hb.cell i).trans (hc i b hi)
theorem BoolsAt.below {w w' : World} {g n c : Nat} {l : List Bool} (h : BoolsAt w g n c l) (k : Below w.heap.size w w') : BoolsAt w' g n c l := by
  obtain ⟨C, hb, hs, hc⟩ := h.blk
  exact ⟨⟨C, hb.below k hb.lt, hs, hc⟩, h.len, h.cap, h.most⟩
theorem BoolsAt.turned {S : Nat → Prop} {w w' : World} {g n c : Nat} {l : List Bool} (h : BoolsAt w g n c l) (k : Turned S w w') (hn : ¬ S g) : BoolsAt w' g n c l := by
  obtain ⟨C, hb, hs, hc⟩ := h.blk
  exact ⟨⟨C, hb.turned k hn, hs, hc⟩, h.len, h.cap, h.most⟩
def EncRel (w : World) (used : List Bool) (M : Array Value) (i : Value) (wr : World) : Prop :=
  ∃ k : Nat, k ≤ used.length ∧ i = .int .i64 (k : Int) ∧ Hid (Blk wr (w.heap.size + 1) 5 (u8s (encK used k)).toArray) ∧ Hid (Below w.heap.size w wr) ∧ Hid (Blk wr w.heap.size 86 M)
theorem or_lit {a r : Nat} (ha : a < 256) (hr : r < 256) {R : Int} (hR : R = (r : Int)) : bits BinOp.or IntKind.u8 (a : Int) R = ((a ||| r : Nat) : Int) := by subst hR; exact u8_or_nat a r ha hr
set_option linter.unusedSimpArgs false in
set_option maxRecDepth 100000 in
set_option maxHeartbeats 8000000 in
theorem encode_c (ug uc : Nat) (used : List Bool) (rA : Option Addr) (rc : Nat) (root : List UInt8) (w : World) (hu : BoolsAt w ug used.length uc used) (hul : used.length ≤ 2000) (hr : Bs 5 w rA root.length rc root) (hrl : root.length ≤ 64) :
    Calls Try.prog 43 #[.agg #[.slice (some ⟨ug, 0, none⟩) used.length uc, .slice rA root.length rc]] w (GivesOwn w (encB used root)) := by
  have H0 := Lib.hid (And.intro hu (And.intro hul (And.intro hr hrl)))
  have hl' : (used.length : Int) ≤ 2000 := by omega
  clear hu hul hr hrl
  go_enter Try.func43, Try.ntmps43
  go_wp2_with (
    (refine at_dst 6 rfl ?_)
    (refine wpList_make_bs rfl (.const (.int .i64 512)) (.const (.int .i64 512)) rfl .i64 .i64 512 512 512 rfl rfl rfl rfl (by omega) ?_)
    intro w1 hb1 hbel1 hs1
    have hm : Blk w1 w.heap.size 86 #[.slice (some ⟨ug, 0, none⟩) used.length uc, .slice rA root.length rc] := (Blk.new w _ _).below hbel1 (by simp)
    have c0 : w1.cell? ⟨w.heap.size, 0, none⟩ = some (.slice (some ⟨ug, 0, none⟩) used.length uc) := hm.cell 0
    have hb1' : Blk w1 (w.heap.size + 1) 5 (u8s (zeros 512)).toArray := by simpa using hb1
    have H1 := Lib.hid (And.intro hb1' (And.intro (((Below.refl w.heap.size w).alloc (Nat.le_refl _) _).trans (hbel1.mono (by simp))) hm))
    clear hb1 hb1' hbel1 hs1 hm)
  go_loopw [10] (fun i wr => EncRel w used #[.slice (some ⟨ug, 0, none⟩) used.length uc, .slice rA root.length rc] i wr) (fun i _ => used.length - (intOf i).toNat)
  case atStart => exact ⟨0, Nat.zero_le _, rfl, H1.out.1, H1.out.2.1, H1.out.2.2⟩
  case round =>
    clear H1 c0
    obtain ⟨k, hk, rfl, HB, HW, HM⟩ := hrel
    by_cases hkn : k < used.length
    · obtain ⟨b, hb⟩ : ∃ b, used[k]? = some b := ⟨_, List.getElem?_eq_getElem hkn⟩
      have cu : wr.cell? ⟨ug, k, none⟩ = some (.bool b) := (H0.out.1.below HW.out).cell hb
      have hk0 : (0 : Int) ≤ (k : Int) := by omega
      have hk1 : (k : Int) < (used.length : Int) := by omega
      cases b with
      | false =>
        have hE : encK used (k + 1) = encK used k := by
          show (if used[k]? = some true then _ else _) = _
          rw [if_neg (by rw [hb]; decide)]
        have HE := Lib.hid hE
        clear hb hE
        go_wp2_with fail
        go_roundw
        case rel => exact ⟨k + 1, by omega, by go_num, by show Blk _ _ _ _; rw [HE.out]; exact HB.out, HW.out, HM.out⟩
        case measure => simp [intOf]; omega
      | true =>
        have hd512 : k / 8 < 512 := by have := H0.out.2.1; omega
        obtain ⟨d, hd⟩ : ∃ d, d = k / 8 := ⟨_, rfl⟩
        obtain ⟨r, hr⟩ : ∃ r, r = k % 8 := ⟨_, rfl⟩
        have hdl : d < (encK used k).length := by rw [encK_len]; omega
        obtain ⟨old, hold'⟩ : ∃ old, (encK used k)[d]? = some old := ⟨_, List.getElem?_eq_getElem hdl⟩
        have hold : old.toNat < 256 := old.toNat_lt
        obtain ⟨X, hX⟩ : ∃ X, X = old.toNat ||| 2 ^ r := ⟨_, rfl⟩
        have hX256 : X < 256 := by rw [hX]; exact or_lt hold (by omega)
        have hE : encK used (k + 1) = (encK used k).set d (UInt8.ofNat X) := by
          show (if used[k]? = some true then _ else _) = _
          rw [if_pos hb, ← hd, ← hr, hold', Option.getD_some, ← hX]
        have cd : wr.cell? ⟨w.heap.size + 1, d, none⟩ = some (.int .u8 (old.toNat : Int)) := (HB.out.cell d).trans (by
          rw [List.getElem?_toArray]
          exact u8s_at (by omega) |>.trans (by rw [(List.getElem?_eq_some_iff.1 hold').2]))
        have cd' : wr.drew.cell? ⟨w.heap.size + 1, d, none⟩ = some (.int .u8 (old.toNat : Int)) := cd
        have fd := HB.out.frozen d
        have hset := HB.out.drew.set_ d (.int .u8 ((UInt8.ofNat X).toNat : Int))
        rw [u8s_set, ← hE, u8_of hX256] at hset
        have hTw := HW.out.drew.setCell (p := ⟨w.heap.size + 1, d, none⟩) (by show _ ≤ _ + 1; omega) (.int .u8 (X : Int))
        have hM2 := HM.out.drew.far (p := ⟨w.heap.size + 1, d, none⟩) (by show w.heap.size ≠ w.heap.size + 1; omega) (.int .u8 (X : Int))
        have HY := Lib.hid (And.intro hset (And.intro hTw hM2))
        have q1 : (k : Int) / 8 = (d : Int) := by omega
        have q2 : (k : Int).tdiv 8 = (d : Int) := by rw [Int.tdiv_eq_ediv_of_nonneg (by omega)]; exact q1
        have q3 : (k : Int) % 8 = (r : Int) := by omega
        have q4 : (k : Int).tmod 8 = (r : Int) := by rw [Int.tmod_eq_emod_of_nonneg (by omega)]; exact q3
        have d0 : (0 : Int) ≤ (d : Int) := by omega
        have d1 : (d : Int) < 512 := by omega
        have hwd : IntKind.i64.wrap (d : Int) = (d : Int) := i64_small (by omega) (by omega)
        have hwr : IntKind.i64.wrap (r : Int) = (r : Int) := i64_small (by omega) (by omega)
        have hr8 : r = 0 ∨ r = 1 ∨ r = 2 ∨ r = 3 ∨ r = 4 ∨ r = 5 ∨ r = 6 ∨ r = 7 := by omega
        clear hb hset hTw hM2 hE hold' hdl hd hr hX256 HB HW HM hd512 q1 q3
        go_wp2_with fail
        rcases hr8 with rfl | rfl | rfl | rfl | rfl | rfl | rfl | rfl
        · have hor := or_lit (a := old.toNat) (r := 1) hold (by omega) (R := 1) rfl
          rw [show old.toNat ||| 1 = X from hX.symm] at hor
          clear hX
          go_still_tail 10, (by kernel_rfl)
          change wpList _ _ _ _ _ wr.drew
          go_wp2_with fail
          go_roundw
          case rel => exact ⟨k + 1, by omega, by go_num, HY.out.1, HY.out.2.1, HY.out.2.2⟩
          case measure => simp [intOf]; omega
        · have hor := or_lit (a := old.toNat) (r := 2) hold (by omega) (R := 2) rfl
          rw [show old.toNat ||| 2 = X from hX.symm] at hor
          clear hX
          go_still_tail 10, (by kernel_rfl)
          change wpList _ _ _ _ _ wr.drew
          go_wp2_with fail
          go_roundw
          case rel => exact ⟨k + 1, by omega, by go_num, HY.out.1, HY.out.2.1, HY.out.2.2⟩
          case measure => simp [intOf]; omega
        · have hor := or_lit (a := old.toNat) (r := 4) hold (by omega) (R := 4) rfl
          rw [show old.toNat ||| 4 = X from hX.symm] at hor
          clear hX
          go_still_tail 10, (by kernel_rfl)
          change wpList _ _ _ _ _ wr.drew
          go_wp2_with fail
          go_roundw
          case rel => exact ⟨k + 1, by omega, by go_num, HY.out.1, HY.out.2.1, HY.out.2.2⟩
          case measure => simp [intOf]; omega
        · have hor := or_lit (a := old.toNat) (r := 8) hold (by omega) (R := 8) rfl
          rw [show old.toNat ||| 8 = X from hX.symm] at hor
          clear hX
          go_still_tail 10, (by kernel_rfl)
          change wpList _ _ _ _ _ wr.drew
          go_wp2_with fail
          go_roundw
          case rel => exact ⟨k + 1, by omega, by go_num, HY.out.1, HY.out.2.1, HY.out.2.2⟩
          case measure => simp [intOf]; omega
        · have hor := or_lit (a := old.toNat) (r := 16) hold (by omega) (R := 16) rfl
          rw [show old.toNat ||| 16 = X from hX.symm] at hor
          clear hX
          go_still_tail 10, (by kernel_rfl)
          change wpList _ _ _ _ _ wr.drew
          go_wp2_with fail
          go_roundw
          case rel => exact ⟨k + 1, by omega, by go_num, HY.out.1, HY.out.2.1, HY.out.2.2⟩
          case measure => simp [intOf]; omega
        · have hor := or_lit (a := old.toNat) (r := 32) hold (by omega) (R := 32) rfl
          rw [show old.toNat ||| 32 = X from hX.symm] at hor
          clear hX
          go_still_tail 10, (by kernel_rfl)
          change wpList _ _ _ _ _ wr.drew
          go_wp2_with fail
          go_roundw
          case rel => exact ⟨k + 1, by omega, by go_num, HY.out.1, HY.out.2.1, HY.out.2.2⟩
          case measure => simp [intOf]; omega
        · have hor := or_lit (a := old.toNat) (r := 64) hold (by omega) (R := 64) rfl
          rw [show old.toNat ||| 64 = X from hX.symm] at hor
          clear hX
          go_still_tail 10, (by kernel_rfl)
          change wpList _ _ _ _ _ wr.drew
          go_wp2_with fail
          go_roundw
          case rel => exact ⟨k + 1, by omega, by go_num, HY.out.1, HY.out.2.1, HY.out.2.2⟩
          case measure => simp [intOf]; omega
        · have hor := or_lit (a := old.toNat) (r := 128) hold (by omega) (R := 128) rfl
          rw [show old.toNat ||| 128 = X from hX.symm] at hor
          clear hX
          go_still_tail 10, (by kernel_rfl)
          change wpList _ _ _ _ _ wr.drew
          go_wp2_with fail
          go_roundw
          case rel => exact ⟨k + 1, by omega, by go_num, HY.out.1, HY.out.2.1, HY.out.2.2⟩
          case measure => simp [intOf]; omega
    · obtain rfl : k = used.length := by omega
      have hS0 : (fun W : World => W.cell? ⟨w.heap.size, 1, none⟩ = some (.slice rA root.length rc) ∧ Bs 5 W rA root.length rc root) wr.drew := ⟨HM.out.drew.cell 1, (H0.out.2.2.1.below HW.out).drew⟩
      have HBW := Lib.hid (And.intro HB.out.drew HW.out.drew)
      have cv : ∀ W, Bs 5 W rA root.length rc root → (convert 31 9 (.slice rA root.length rc)).run Try.prog W = .ok (.string ⟨root.toArray⟩) W := fun W h => h.toString Try.underlying31 Try.underlying5 Try.underlying9
      clear HB HM HW hk hkn
      go_wp2_with fail
      refine wp_region_held_drew (S := (fun W : World => W.cell? ⟨w.heap.size, 1, none⟩ = some (.slice rA root.length rc) ∧ Bs 5 W rA root.length rc root)) (by kernel_rfl) hS0 (fun hHeld => ?_)
      clear hHeld
      refine wpAnyH_take (i := 0) (v := .slice (some ⟨w.heap.size + 1, 0, none⟩) 512 512) rfl (by kernel_rfl) (by kernel_rfl) (by kernel_rfl) (fun _ _ _ h => h) (Or.inl ⟨by kernel_rfl, fun W hW => by go_simp⟩) hS0 ?_
      simp only [Act.put, List.getElem_toArray, List.getElem_cons_succ, List.getElem_cons_zero, List.setIfInBounds_toArray, List.set_cons_zero, List.set_cons_succ]
      refine wpAnyH_take (i := 1) (v := .slice (some ⟨w.heap.size + 1, 256, none⟩) 256 256) rfl (by kernel_rfl) (by kernel_rfl) (by kernel_rfl) (fun _ _ _ h => h) (Or.inl ⟨by kernel_rfl, fun W hW => by go_simp⟩) hS0 ?_
      simp only [Act.put, List.getElem_toArray, List.getElem_cons_succ, List.getElem_cons_zero, List.setIfInBounds_toArray, List.set_cons_zero, List.set_cons_succ]
      refine wpAnyH_take (i := 2) (v := .pointer (some ⟨w.heap.size, 1, none⟩)) rfl (by kernel_rfl) (by kernel_rfl) (by kernel_rfl) (fun _ _ _ h => h) (Or.inl ⟨by kernel_rfl, fun W hW => by go_simp⟩) hS0 ?_
      simp only [Act.put, List.getElem_toArray, List.getElem_cons_succ, List.getElem_cons_zero, List.setIfInBounds_toArray, List.set_cons_zero, List.set_cons_succ]
      refine wpAnyH_take (i := 3) (v := .slice rA root.length rc) rfl (by kernel_rfl) (by kernel_rfl) (by kernel_rfl) (fun _ _ _ h => h) (Or.inl ⟨by kernel_rfl, fun W hW => by obtain ⟨hW1, _⟩ := hW; go_simp⟩) hS0 ?_
      simp only [Act.put, List.getElem_toArray, List.getElem_cons_succ, List.getElem_cons_zero, List.setIfInBounds_toArray, List.set_cons_zero, List.set_cons_succ]
      refine wpAnyH_take (i := 4) (v := .string ⟨root.toArray⟩) rfl (by kernel_rfl) (by kernel_rfl) (by kernel_rfl) (fun _ _ _ h => h) (Or.inl ⟨by kernel_rfl, fun W hW => by have h3 := cv W hW.2; simp [execOp, Act.eval, h3, Result.andThen]⟩) hS0 ?_
      simp only [Act.put, List.getElem_toArray, List.getElem_cons_succ, List.getElem_cons_zero, List.setIfInBounds_toArray, List.set_cons_zero, List.set_cons_succ]
      refine wpAnyH_ready (rs := [5]) (by kernel_rfl) (by simp) ?_
      refine AllReadyH.cons rfl (fun K5 hK5 => ?_) AllReadyH.nil
      go_simp
      have hrs : root.toArray.size = root.length := by simp
      refine (text_c ⟨root.toArray⟩ (by show root.toArray.size ≤ _; rw [hrs]; have := H0.out.2.2.2; omega) _).mono ?_
      rintro e w3 ⟨A3, c3, rfl, ho3, hb3⟩
      have et : (numB (⟨root.toArray⟩ : ByteArray).size ++ (⟨root.toArray⟩ : ByteArray).data.toList) = numB root.length ++ root := by
        show numB root.toArray.size ++ root.toArray.toList = _
        rw [hrs, List.toList_toArray]
      rw [et] at ho3 ⊢
      obtain ⟨tl, htl⟩ : ∃ tl, tl = (numB root.length ++ root).length := ⟨_, rfl⟩
      rw [← htl] at ho3 ⊢
      have htl2 : tl ≤ 74 := by
        rw [htl, List.length_append]
        have := numB_ten (n := root.length) (by have := H0.out.2.2.2; omega)
        have := H0.out.2.2.2
        omega
      have htl0 : 0 < tl := by rw [htl, List.length_append]; have := numB_pos root.length; omega
      have hB3 : Bs 5 w3 A3 tl c3 (numB root.length ++ root) := Bs.of_own ho3
      have hS1 : (fun W : World => W.cell? ⟨w.heap.size, 1, none⟩ = some (.slice rA root.length rc) ∧ Bs 5 W rA root.length rc root) w3 := ⟨(hb3.cell (World.block_lt_of_cell? _ _ hS0.1)).trans hS0.1, hS0.2.below hb3⟩
      have hBw := HBW.out.1.below hb3 HBW.out.1.lt
      have hWw := HBW.out.2.trans (hb3.mono HBW.out.2.size)
      refine hK5.out _ _ hS1 (fun _ => ?_)
      refine wpAnyH_ready (rs := [6]) (by kernel_rfl) (by simp) ?_
      refine AllReadyH.cons rfl (fun K6 hK6 => ?_) AllReadyH.nil
      have hcp := run_copy_bs (ty := 3) (w.heap.size + 1) 256 256 256 A3 tl c3 _ hBw (numB root.length ++ root) hB3 (by rw [List.size_toArray, u8s_length, encK_len]; omega) htl0 (by omega)
      refine step_value (w' := w3.setRow (w.heap.size + 1) (putCs (u8s (encK used used.length)).toArray 256 (u8s (numB root.length ++ root)))) (v := goInt (tl : Nat)) (by kernel_rfl) (by simp [execOp, Act.eval, resolve, invoke, builtin, hcp, Result.andThen]) ?_
      have hTc : Turned (fun k => k = w.heap.size + 1) w3 (w3.setRow (w.heap.size + 1) (putCs (u8s (encK used used.length)).toArray 256 (u8s (numB root.length ++ root)))) := Turned.setRow (S := fun k => k = w.heap.size + 1) (Turned.refl _ w3) (fun _ => rfl) _
      have hS2 : (fun W : World => W.cell? ⟨w.heap.size, 1, none⟩ = some (.slice rA root.length rc) ∧ Bs 5 W rA root.length rc root) (w3.setRow (w.heap.size + 1) (putCs (u8s (encK used used.length)).toArray 256 (u8s (numB root.length ++ root)))) := by
        refine ⟨hTc.cell hS1.1 (by show ¬ w.heap.size = w.heap.size + 1; omega), ?_⟩
        by_cases h0 : 0 < root.length
        · refine hS1.2.turned' hTc (fun g o e => ?_)
          obtain ⟨g', o', e', hlt⟩ := H0.out.2.2.1.lt h0
          rw [e] at e'; injection e' with e'; injection e' with e'
          omega
        · exact ⟨hS1.2.len, hS1.2.cap, hS1.2.most, .inl (by omega)⟩
      refine hK6.out _ _ hS2 (fun _ => ?_)
      refine wpAnyH_done (by kernel_rfl) ?_ _
      have hfin := hBw.putRow (o := 256) (u8s (numB root.length ++ root))
      have hfw : Below w.heap.size w (w3.setRow (w.heap.size + 1) (putCs (u8s (encK used used.length)).toArray 256 (u8s (numB root.length ++ root)))) := below_setRow hWw (by omega) _
      have HF := Lib.hid (And.intro hfin (And.intro hfw htl))
      clear hfin hfw hS2 hTc hcp hS1 hS0 hB3 hBw hWw HBW ho3 hb3 cv et
      go_wp2_with fail
      go_ret
      obtain ⟨h1, h2, h3⟩ := HF.out
      have e : putCs (u8s (encK used used.length)).toArray 256 (u8s (numB root.length ++ root)) = (u8s (encB used root)).toArray := by
        rw [putCs_tail, enc_tail used _ (by have := H0.out.2.1; omega)]; rfl
      obtain ⟨w9, hw9⟩ : ∃ w9, w9 = w3.setRow (w.heap.size + 1) (putCs (u8s (encK used used.length)).toArray 256 (u8s (numB root.length ++ root))) := ⟨_, rfl⟩
      rw [← hw9] at h1 h2 ⊢
      rw [e] at h1
      have hel := encB_len used root (by omega)
      have hown := blk_own (l := encB used root) (base := w.heap.size) h1 (by omega) (by rw [hel]; decide)
      rw [hel] at hown
      exact ⟨some ⟨w.heap.size + 1, 0, none⟩, 512, by rw [hel]; rfl, by rw [hel]; exact hown, h2⟩
end Go.Proofs.Ytliakkpmmmgmhaa
/- Maps from whole numbers to blocks of bytes, in memory. No program in it, but the type of bytes. -/
namespace Go.Proofs.Ytliakkpmmmgmhaa
open Go.RowKit

/-- Block b is a map of these keys to bytes. -/
def PMap (w : World) (b : Nat) (ks : List Int) (f : Int → Option (List UInt8)) : Prop :=
  ∃ vm : List (Int × Value), IMap w b vm ∧ ks = vm.map (·.1) ∧ ∀ n, (mget vm n = none ∧ f n = none) ∨ ∃ A c l, mget vm n = some (.slice A 512 c) ∧ f n = some l ∧ Bs 5 w A 512 c l
def pput (f : Int → Option (List UInt8)) (n : Int) (l : List UInt8) : Int → Option (List UInt8) := fun k => if k = n then some l else f k
def pdel (f : Int → Option (List UInt8)) (n : Int) : Int → Option (List UInt8) := fun k => if k = n then none else f k
def kput (ks : List Int) (n : Int) : List Int := if n ∈ ks then ks else ks ++ [n]
def kdel (ks : List Int) (n : Int) : List Int := ks.filter (fun k => !(k == n))
theorem pput_same (f : Int → Option (List UInt8)) (n : Int) (l : List UInt8) : pput f n l n = some l := if_pos rfl
theorem pput_other (f : Int → Option (List UInt8)) {n k : Int} (l : List UInt8) (h : k ≠ n) : pput f n l k = f k := if_neg h

theorem mput_keys (vm : List (Int × Value)) (n : Int) (v : Value) : (mput vm n v).map (·.1) = kput (vm.map (·.1)) n := by
  unfold mput kput
  by_cases h : vm.any (fun x => x.1 == n)
  · rw [if_pos h, if_pos (by simpa using h), List.map_map]
    apply List.map_congr_left
    intro x _
    show (if x.1 == n then (n, v) else x).1 = x.1
    split
    · rename_i h; exact (by simpa using h : x.1 = n).symm
    · rfl
  · rw [if_neg h, if_neg (by simpa using h)]; simp
theorem mdel_keys (vm : List (Int × Value)) (n : Int) : (mdel vm n).map (·.1) = kdel (vm.map (·.1)) n := by
  unfold mdel kdel
  rw [List.filter_map]; rfl
section
variable {w w' : World} {b : Nat} {ks : List Int} {f : Int → Option (List UInt8)}
theorem PMap.lt (h : PMap w b ks f) : b < w.heap.size := by obtain ⟨vm, h, _⟩ := h; exact h.lt
theorem PMap.not8 (h : PMap w b ks f) {t : TypeId} : Not8 t w b := by obtain ⟨vm, h, _⟩ := h; exact h.not8
theorem PMap.ne_blk (h : PMap w b ks f) {g : Nat} {t : TypeId} {cs : Array Value} (k : Blk w g t cs) : b ≠ g := by obtain ⟨vm, h, _⟩ := h; exact h.ne_blk k
theorem PMap.nodup (h : PMap w b ks f) : ks.Nodup := by obtain ⟨vm, h, rfl, _⟩ := h; exact h.nodup
theorem PMap.turned {S : Nat → Prop} (h : PMap w b ks f) (k : Turned S w w') (hn : ¬ S b) (hS : ∀ k, S k → Not8 5 w k) : PMap w' b ks f := by
  obtain ⟨vm, h1, h2, h3⟩ := h
  refine ⟨vm, h1.turned k hn, h2, fun n => ?_⟩
  rcases h3 n with h4 | ⟨A, c, l, h4, h5, h6⟩
  · exact .inl h4
  · exact .inr ⟨A, c, l, h4, h5, h6.turned k hS⟩
theorem PMap.below (h : PMap w b ks f) (k : Below w.heap.size w w') : PMap w' b ks f := h.turned (S := fun _ => False) (Turned.of_below k) id (fun _ h => h.elim)
theorem PMap.alloc (h : PMap w b ks f) (o : Obj) : PMap (w.alloc o) b ks f := h.turned (S := fun _ => False) ((Turned.refl _ _).alloc o) id (fun _ h => h.elim)
theorem PMap.mem (h : PMap w b ks f) (n : Int) : n ∈ ks ↔ (f n).isSome = true := by
  obtain ⟨vm, h1, rfl, h3⟩ := h
  rcases h3 n with ⟨h4, h5⟩ | ⟨A, c, l, h4, h5, _⟩
  · rw [h5]
    simp only [List.mem_map, Option.isSome_none, Bool.false_eq_true, iff_false]
    rintro ⟨x, hx, rfl⟩
    exact mget_none.1 h4 x hx rfl
  · rw [h5]
    simp only [Option.isSome_some, iff_true]
    exact List.mem_map.2 ⟨_, mget_some_mem h4, rfl⟩
theorem PMap.made (w : World) : PMap (w.alloc (.map #[] 0)) w.heap.size [] (fun _ => none) := ⟨[], IMap.made w, rfl, fun _ => .inl ⟨rfl, rfl⟩⟩
/-- What is known of a map of blocks at a page that is there. -/
theorem PMap.yes (h : PMap w b ks f) {n : Int} {l : List UInt8} (hf : f n = some l) : ∃ vm A c, IMap w b vm ∧ mget vm n = some (.slice A 512 c) ∧ Bs 5 w A 512 c l := by
  obtain ⟨vm, h1, _, h3⟩ := h
  rcases h3 n with ⟨h4, h5⟩ | ⟨A, c, l', h4, h5, h6⟩
  · rw [hf] at h5; cases h5
  · rw [hf] at h5; injection h5 with h5; subst h5
    exact ⟨vm, A, c, h1, h4, h6⟩
theorem PMap.no (h : PMap w b ks f) {n : Int} (hf : f n = none) : ∃ vm, IMap w b vm ∧ mget vm n = none := by
  obtain ⟨vm, h1, _, h3⟩ := h
  rcases h3 n with ⟨h4, h5⟩ | ⟨A, c, l', h4, h5, h6⟩
  · exact ⟨vm, h1, h4⟩
  · rw [hf] at h5; cases h5
theorem PMap.imap (h : PMap w b ks f) : ∃ vm, IMap w b vm ∧ ks = vm.map (·.1) := by obtain ⟨vm, h1, h2, _⟩ := h; exact ⟨vm, h1, h2⟩
end
section
variable {P : Program} {w : World} {b : Nat} {ks : List Int} {f : Int → Option (List UInt8)} {ops : Array Oper} {rest : List Oper} {o : Oper} {a : Act} {Q : Exit → Act → World → Prop}
theorem wpList_pput (hg : o.guard = none) (mo ko vo : Operand) (T : TypeId) (hop : o.op = Op.mapUpdate T mo ko vo) {K E : TypeId} (hT : P.underlying T = some (.map K E)) (hK : P.underlying K = some (.int .i64))
    (hm : a.eval mo = .map (some b)) (n : Int) (hk : a.eval ko = .int .i64 n) (A : Option Addr) (c : Nat) (l : List UInt8) (hv : a.eval vo = .slice A 512 c) (h : PMap w b ks f) (hB : Bs 5 w A 512 c l)
    (next : ∀ w', PMap w' b (kput ks n) (pput f n l) → Turned (fun k => k = b) w w' → w'.heap.size = w.heap.size → wpList P ops Q rest (a.put o.dst undef) w') : wpList P ops Q (o :: rest) a w := by
  have h8 := h.not8 (t := 5)
  obtain ⟨vm, h1, rfl, h3⟩ := h
  refine wpList_mput hg mo ko vo T hop hT hK hm n hk _ hv h1 (fun w' hm' ht hs => next w' ⟨_, hm', (mput_keys _ _ _).symm, fun k => ?_⟩ ht hs)
  rw [mget_put]
  unfold pput
  by_cases e : k = n
  · rw [if_pos e, if_pos e]
    exact .inr ⟨A, c, l, rfl, rfl, hB.turned ht (fun k e => by subst e; exact h8)⟩
  · rw [if_neg e, if_neg e]
    rcases h3 k with h4 | ⟨A, c, l, h4, h5, h6⟩
    · exact .inl h4
    · exact .inr ⟨A, c, l, h4, h5, h6.turned ht (fun k e => by subst e; exact h8)⟩
theorem wpList_pdel (hg : o.guard = none) (mo ko : Operand) (T K : TypeId) (hop : o.op = .call { callee := .builtin .delete, args := #[mo, ko], argTypes := #[T, K] }) {E : TypeId} (hT : P.underlying T = some (.map K E)) (hK : P.underlying K = some (.int .i64))
    (hm : a.eval mo = .map (some b)) (n : Int) (hk : a.eval ko = .int .i64 n) (h : PMap w b ks f)
    (next : ∀ w', PMap w' b (kdel ks n) (pdel f n) → Turned (fun k => k = b) w w' → w'.heap.size = w.heap.size → wpList P ops Q rest (a.put o.dst (.tuple #[])) w') : wpList P ops Q (o :: rest) a w := by
  have h8 := h.not8 (t := 5)
  obtain ⟨vm, h1, rfl, h3⟩ := h
  refine wpList_mdel hg mo ko T K hop hT hK hm n hk h1 (fun w' hm' ht hs => next w' ⟨_, hm', (mdel_keys _ _).symm, fun k => ?_⟩ ht hs)
  rw [mget_del]
  unfold pdel
  by_cases e : k = n
  · rw [if_pos e, if_pos e]; exact .inl ⟨rfl, rfl⟩
  · rw [if_neg e, if_neg e]
    rcases h3 k with h4 | ⟨A, c, l, h4, h5, h6⟩
    · exact .inl h4
    · exact .inr ⟨A, c, l, h4, h5, h6.turned ht (fun k e => by subst e; exact h8)⟩
end
end Go.Proofs.Ytliakkpmmmgmhaa
/- The pager in memory. -/
namespace Go.Proofs.Ytliakkpmmmgmhaa
open Go.RowKit

/-- What is kept beside the pages, in memory. -/
structure MetaG where
  ub : Nat
  uc : Nat
  used : List Bool
  rA : Option Addr
  rc : Nat
  root : List UInt8
def MetaG.cells (M : MetaG) : List Value := [.slice (some ⟨M.ub, 0, none⟩) M.used.length M.uc, .slice M.rA M.root.length M.rc]
structure MetaRep (w : World) (M : MetaG) : Prop where
  used : BoolsAt w M.ub M.used.length M.uc M.used
  root : Bs 5 w M.rA M.root.length M.rc M.root
  rl : M.root.length ≤ 64
theorem MetaRep.turned {S : Nat → Prop} {w w' : World} {M : MetaG} (h : MetaRep w M) (k : Turned S w w') (h1 : ¬ S M.ub) (h8 : ∀ k, S k → Not8 5 w k) : MetaRep w' M := ⟨h.used.turned k h1, h.root.turned k h8, h.rl⟩
theorem MetaRep.below {w w' : World} {M : MetaG} (h : MetaRep w M) (k : Below w.heap.size w w') : MetaRep w' M := ⟨h.used.below k, h.root.below k, h.rl⟩
/-- A transaction in memory. -/
structure TxG where
  b : Nat
  M : MetaG
  pb : Nat
  ks : List Int
  f : Int → Option (List UInt8)
  own : Bool
def TxG.head (T : TxG) : Array Value := #[.slice (some ⟨T.M.ub, 0, none⟩) T.M.used.length T.M.uc, .slice T.M.rA T.M.root.length T.M.rc, .map (some T.pb), .bool T.own]
structure TxRep (w : World) (T : TxG) : Prop where
  blk : Blk w T.b 97 T.head
  mrep : MetaRep w T.M
  map : PMap w T.pb T.ks T.f
theorem TxRep.below {w w' : World} {T : TxG} (h : TxRep w T) (k : Below w.heap.size w w') : TxRep w' T := ⟨h.blk.below k h.blk.lt, h.mrep.below k, h.map.below k⟩
/-- A pager in memory. -/
structure PgG where
  P : Nat
  D : DiskG
  J : LogG
  Q : PoolG
  B : Nat
  n : Nat
  M : MetaG
  ob : Nat
  ks : List Int
  f : Int → Option (List UInt8)
  tx : Option TxG
def txPtr : Option TxG → Value
  | none => .pointer none
  | some T => .pointer (some ⟨T.b, 0, none⟩)
def PgG.head (G : PgG) : Array Value := #[.pointer (some ⟨G.D.d, 0, none⟩), .pointer (some ⟨G.J.b, 0, none⟩), .pointer (some ⟨G.Q.p, 0, none⟩), .int .i64 (G.B : Int), .int .i64 (G.n : Int), .slice (some ⟨G.M.ub, 0, none⟩) G.M.used.length G.M.uc, .slice G.M.rA G.M.root.length G.M.rc, .map (some G.ob), txPtr G.tx, .bool false]
/-- A page as it was kept last. -/
def PgG.page (G : PgG) (n : Nat) : List UInt8 :=
  match G.f (n : Int) with
  | some l => l
  | none => (G.D.now[1 + G.B + n]?).getD []
structure PgRep (w : World) (G : PgG) : Prop where
  blk : Blk w G.P 89 G.head
  disk : DiskRep w G.D
  log : LogRep w G.D.d G.J
  pool : PoolRep w G.Q
  mrep : MetaRep w G.M
  over : PMap w G.ob G.ks G.f
  tx : ∀ T, G.tx = some T → TxRep w T
  live : G.D.Live
  sync : G.D.sync
  on : LogDisk G.D.now G.J
  jfrm : G.J.frm = 1
  jroom : G.J.room = (G.B - 2) * 512
  B4 : 4 ≤ G.B
  B300 : G.B ≤ 300
  n1 : 1 ≤ G.n
  n1600 : G.n ≤ 1600
  fit : 2 + G.B + G.n ≤ G.D.L.length
  ul : G.M.used.length = G.n + 1
  frames : ∀ fr ∈ G.Q.L, 0 ≤ fr.page → fr.page ≤ G.n ∧ G.f fr.page = none ∧ G.D.now[1 + G.B + fr.page.toNat]? = some fr.l
  keys : ∀ n l, G.f n = some l → 0 ≤ n ∧ n ≤ G.n ∧ l.length = 512
  ne1 : G.ob ≠ G.Q.mb
  txul : ∀ T, G.tx = some T → T.M.used.length = G.n + 1 ∧ T.M.ub ≠ G.M.ub ∧ T.pb ≠ G.ob ∧ T.pb ≠ G.Q.mb ∧ ∀ n l, T.f n = some l → 0 ≤ n ∧ n ≤ G.n ∧ l.length = 512
/-- The blocks that are the pager's own. -/
def PgG.own (G : PgG) (k : Nat) : Prop := k = G.P ∨ k = G.D.d ∨ k = G.D.bb ∨ k = G.J.b ∨ G.Q.own k ∨ k = G.M.ub ∨ k = G.ob ∨ ∃ T, G.tx = some T ∧ (k = T.b ∨ k = T.M.ub ∨ k = T.pb)
theorem PgRep.below {w w' : World} {G : PgG} (h : PgRep w G) (k : Below w.heap.size w w') : PgRep w' G :=
  { h with blk := h.blk.below k h.blk.lt, disk := h.disk.below k, log := h.log.below k, pool := h.pool.below k, mrep := h.mrep.below k, over := h.over.below k, tx := fun T hT => (h.tx T hT).below k }
set_option maxRecDepth 100000 in
set_option maxHeartbeats 1000000 in
theorem pbroken_c (G : PgG) (w : World) (h : PgRep w G) : Calls Try.prog 41 #[.pointer (some ⟨G.P, 0, none⟩)] w fun e w' => e = .returned (.bool false) ∧ w = w' := by
  have c9 : w.cell? ⟨G.P, 9, none⟩ = some (.bool false) := h.blk.cell 9
  clear h
  go_enter Try.func41, Try.ntmps41
  go_wp2
  go_ret
  exact ⟨rfl, rfl⟩
set_option maxRecDepth 100000 in
set_option maxHeartbeats 1000000 in
theorem pages_c (G : PgG) (w : World) (h : PgRep w G) : Calls Try.prog 33 #[.pointer (some ⟨G.P, 0, none⟩)] w fun e w' => e = .returned (.int .i64 (G.n : Int)) ∧ w = w' := by
  have c4 : w.cell? ⟨G.P, 4, none⟩ = some (.int .i64 (G.n : Int)) := h.blk.cell 4
  clear h
  go_enter Try.func33, Try.ntmps33
  go_wp2
  go_ret
  exact ⟨rfl, rfl⟩
set_option maxRecDepth 100000 in
set_option maxHeartbeats 1000000 in
theorem home_c (P B n F : Nat) (C : Array Value) (w : World) (h : Blk w P 89 C) (hC : C[3]? = some (.int .i64 (B : Int))) (hB : B ≤ 4096) (hn : n ≤ 4096) (hF : F = 1 + B + n) : Calls Try.prog 61 #[.pointer (some ⟨P, 0, none⟩), .int .i64 (n : Int)] w fun e w' => e = .returned (.int .i64 (F : Int)) ∧ w' = w := by
  have c3 : w.cell? ⟨P, 3, none⟩ = some (.int .i64 (B : Int)) := (h.cell 3).trans hC
  have e1 : (1 : Int) + (B : Int) + (n : Int) = (F : Int) := by omega
  have h1 : (B : Int) ≤ 4096 := by omega
  have h2 : (n : Int) ≤ 4096 := by omega
  clear h hC hF hB hn
  go_enter Try.func61, Try.ntmps61
  go_wp2
  go_ret
  exact ⟨rfl, rfl⟩
end Go.Proofs.Ytliakkpmmmgmhaa
/- A page as it was kept last is read. -/
namespace Go.Proofs.Ytliakkpmmmgmhaa
open Go.RowKit

/-- A page as it was kept last. -/
def pageOf (D : DiskG) (B : Nat) (f : Int → Option (List UInt8)) (n : Nat) : List UInt8 :=
  match f (n : Int) with
  | some l => l
  | none => (D.now[1 + B + n]?).getD []
/-- The frames have pages as they are on the disk. -/
def FramesOk (D : DiskG) (Q : PoolG) (B n : Nat) (f : Int → Option (List UInt8)) : Prop := ∀ fr ∈ Q.L, 0 ≤ fr.page → fr.page ≤ n ∧ f fr.page = none ∧ D.now[1 + B + fr.page.toNat]? = some fr.l
/-- The part of a pager that reading needs. -/
structure PgCore (w : World) (P : Nat) (C : Array Value) (D : DiskG) (Q : PoolG) (B n ob : Nat) (ks : List Int) (f : Int → Option (List UInt8)) : Prop where
  blk : Blk w P 89 C
  c0 : C[0]? = some (.pointer (some ⟨D.d, 0, none⟩))
  c2 : C[2]? = some (.pointer (some ⟨Q.p, 0, none⟩))
  c3 : C[3]? = some (.int .i64 (B : Int))
  c4 : C[4]? = some (.int .i64 (n : Int))
  c7 : C[7]? = some (.map (some ob))
  disk : DiskRep w D
  pool : PoolRep w Q
  over : PMap w ob ks f
  live : D.Live
  W0 : D.W = []
  B300 : B ≤ 300
  n1600 : n ≤ 1600
  fit : 2 + B + n ≤ D.L.length
  frames : FramesOk D Q B n f
  keys : ∀ n' l, f n' = some l → 0 ≤ n' ∧ n' ≤ n ∧ l.length = 512
  ne1 : ob ≠ Q.mb
section
variable {w w' : World} {P : Nat} {C : Array Value} {D : DiskG} {Q : PoolG} {B n ob : Nat} {ks : List Int} {f : Int → Option (List UInt8)}
theorem PgCore.poolStep (h : PgCore w P C D Q B n ob ks f) {Q' : PoolG} (k : Turned Q.own w w') (hq : PoolRep w' Q') (hp : Q'.p = Q.p) (hm : Q'.mb = Q.mb) (hf : FramesOk D Q' B n f) : PgCore w' P C D Q' B n ob ks f := by
  have h8 := h.pool.not8
  have nb : ∀ {g : Nat} {t : TypeId} {cs : Array Value}, Blk w g t cs → t ≠ 61 → t ≠ 64 → ¬ Q.own g := by
    rintro g t cs hb h1 h2 (e | e | e)
    · exact hb.ne_ h.pool.bp h1 e
    · exact hb.ne_ h.pool.bf h2 e
    · exact h.pool.bm.ne_blk hb e.symm
  refine { h with blk := h.blk.turned k (nb h.blk (by decide) (by decide)), c2 := by rw [hp]; exact h.c2, disk := h.disk.turned0 h.W0 k (nb h.disk.bd (by decide) (by decide)) (nb h.disk.bb (by decide) (by decide)), pool := hq, over := h.over.turned k ?_ h8, frames := hf, ne1 := by rw [hm]; exact h.ne1 }
  rintro (e | e | e)
  · exact h.over.ne_blk h.pool.bp e
  · exact h.over.ne_blk h.pool.bf e
  · exact h.ne1 e
theorem PgCore.below (h : PgCore w P C D Q B n ob ks f) (k : Below w.heap.size w w') : PgCore w' P C D Q B n ob ks f :=
  { h with blk := h.blk.below k h.blk.lt, disk := h.disk.below k, pool := h.pool.below k, over := h.over.below k }
theorem PgCore.page_len (h : PgCore w P C D Q B n ob ks f) {k : Nat} (hk : k ≤ n) : (pageOf D B f k).length = 512 := by
  unfold pageOf
  split
  · rename_i l hl; exact (h.keys _ _ hl).2.2
  · have hlt : 1 + B + k < D.L.length := by have := h.fit; omega
    have hx := List.getElem?_eq_getElem hlt
    have hn : D.now[1 + B + k]? = some (D.L[1 + B + k]).1 := by unfold DiskG.now; rw [List.getElem?_map, hx]; rfl
    rw [hn]
    exact (h.disk.row _ _ hx).1
end
theorem sweep_frames {L L' : List Frm} {h a h' : Nat} (s : Sweep L h a L' h') : ∀ g ∈ L', ∃ f ∈ L, f.page = g.page ∧ f.l = g.l := by
  induction s with
  | stop _ _ => exact fun g hg => ⟨g, hg, rfl, rfl⟩
  | @go L h f a L' h' hf hm k ih =>
    intro g hg
    obtain ⟨f', hf', h1, h2⟩ := ih g hg
    rcases mem_set hf' with rfl | hf'
    · exact ⟨f, List.mem_of_getElem? hf, h1, h2⟩
    · exact ⟨f', hf', h1, h2⟩
/-- What read tells, and leaves. -/
def ReadDone (w : World) (P : Nat) (C : Array Value) (D : DiskG) (Q : PoolG) (B n ob : Nat) (ks : List Int) (f : Int → Option (List UInt8)) (k : Nat) (e : Ending) (w' : World) : Prop :=
  ∃ v Q', e = .returned (.tuple #[v, .int .i64 0]) ∧ Fresh w w' v (pageOf D B f k) ∧ PgCore w' P C D Q' B n ob ks f ∧ Turned Q.own w w' ∧ Q'.p = Q.p ∧ Q'.fb = Q.fb ∧ Q'.mb = Q.mb
set_option linter.unusedSimpArgs false in
set_option maxRecDepth 100000 in
set_option maxHeartbeats 8000000 in
theorem pread_c (P : Nat) (C : Array Value) (D : DiskG) (Q : PoolG) (B n ob : Nat) (ks : List Int) (f : Int → Option (List UInt8)) (k : Nat) (w : World) (h : PgCore w P C D Q B n ob ks f) (hk : k ≤ n) :
    Calls Try.prog 58 #[.pointer (some ⟨P, 0, none⟩), .int .i64 (k : Int)] w (ReadDone w P C D Q B n ob ks f k) := by
  have c7 : w.cell? ⟨P, 7, none⟩ = some (.map (some ob)) := (h.blk.cell 7).trans h.c7
  have c2 : w.cell? ⟨P, 2, none⟩ = some (.pointer (some ⟨Q.p, 0, none⟩)) := (h.blk.cell 2).trans h.c2
  have HH := Lib.hid (And.intro h hk)
  cases hf : f (k : Int) with
  | some l =>
    obtain ⟨vm, A, c, hm, hg, hB⟩ := h.over.yes hf
    have hl := hm.lookup_yes Try.underlying82 Try.underlying3 hg
    have hpg : pageOf D B f k = l := by unfold pageOf; rw [hf]
    have HX := Lib.hid (And.intro hB hpg)
    clear h hk hf hm hg hB hpg c2
    go_enter Try.func58, Try.ntmps58
    go_wp2_with fail
    refine (clone_c A 512 c l w HX.out.1 (by omega)).mono ?_
    rintro e w1 ⟨v, rfl, hfr, hb⟩
    have H1 := Lib.hid (And.intro hfr hb)
    clear hfr hb hl c7
    go_wp2_with fail
    go_ret2
    exact ⟨v, Q, rfl, by rw [HX.out.2]; exact H1.out.1, HH.out.1.below H1.out.2, Turned.of_below H1.out.2, rfl, rfl, rfl⟩
  | none =>
    obtain ⟨vm, hm, hg⟩ := h.over.no hf
    have hz : ∀ W, (zeroValue 31).run Try.prog W = .ok (.slice none 0 0) W := fun _ => by kernel_rfl
    have hl := hm.lookup_no Try.underlying82 Try.underlying3 (hz w) hg
    have hlt : 1 + B + k < D.L.length := by have := h.fit; omega
    obtain ⟨x, hx⟩ : ∃ x, D.L[1 + B + k]? = some x := ⟨_, List.getElem?_eq_getElem hlt⟩
    have hnx : D.now[1 + B + k]? = some x.1 := by unfold DiskG.now; rw [List.getElem?_map, hx]; rfl
    have hpg : pageOf D B f k = x.1 := by unfold pageOf; rw [hf, hnx]; rfl
    cases hq : mget Q.m (k : Int) with
    | some v =>
      obtain ⟨i, fr, hfi, hpge, _, rfl⟩ := (h.pool.idx (k : Int) v).1 hq
      have hgh := get_hit Q (k : Int) i fr w h.pool hq hfi
      have hfrm := h.frames fr (List.mem_of_getElem? hfi) (by omega)
      rw [hpge, Int.toNat_natCast, hnx] at hfrm
      have hfx : x.1 = fr.l := by have := hfrm.2.2; injection this
      have HX := Lib.hid (And.intro hpg (And.intro hfx hfi))
      clear h hk hf hm hg hz hlt hx hnx hpg hq hpge hfrm hfx hfi
      go_enter Try.func58, Try.ntmps58
      go_wp2_with fail
      refine hgh.mono ?_
      clear hgh
      rintro e w1 ⟨v, rfl, hfr, hp, ht⟩
      have H1 := Lib.hid (And.intro hfr (And.intro hp ht))
      clear hfr hp ht c7 c2
      go_wp2_with fail
      go_ret2
      refine ⟨v, Q.hit i fr, rfl, by rw [HX.out.1, HX.out.2.1]; exact H1.out.1, ?_, H1.out.2.2, rfl, rfl, rfl⟩
      refine HH.out.1.poolStep H1.out.2.2 H1.out.2.1 rfl rfl ?_
      intro g hg h0
      rcases mem_set hg with rfl | hg
      · exact HH.out.1.frames fr (List.mem_of_getElem? HX.out.2.2) h0
      · exact HH.out.1.frames g hg h0
    | none =>
      have hgm := get_miss Q (k : Int) w h.pool hq
      have HX := Lib.hid (And.intro hpg (And.intro hx (And.intro hnx (And.intro hf hlt))))
      clear h hk hf hm hg hz hlt hx hnx hpg hq
      go_enter Try.func58, Try.ntmps58
      go_wp2_with fail
      refine hgm.mono ?_
      clear hgm
      rintro e w1 ⟨rfl, hp, ht⟩
      have hc1 := HH.out.1.poolStep ht hp rfl rfl HH.out.1.frames
      have H1 := Lib.hid (And.intro hc1 ht)
      obtain ⟨F, hF⟩ : ∃ F, F = 1 + B + k := ⟨_, rfl⟩
      have HF := Lib.hid hF
      have c0 : w1.cell? ⟨P, 0, none⟩ = some (.pointer (some ⟨D.d, 0, none⟩)) := (hc1.blk.cell 0).trans hc1.c0
      clear hp ht hc1 c7 c2 hl hF
      go_wp2_with fail
      go_region_held (fun W => W.cell? ⟨P, 0, none⟩ = some (.pointer (some ⟨D.d, 0, none⟩))) (first | assumption)
        (first
          | (go_at_call 61
             (refine (home_c P B k F C _ H1.out.1.blk.drew H1.out.1.c3 (by have := HH.out.1.B300; omega) (by have := HH.out.1.n1600; have := HH.out.2; omega) HF.out).mono ?_)
             rintro e w2 ⟨rfl, rfl⟩)
          | (go_at_call 35
             (refine (dread_c D (F : Int) _ (H1.out.1.disk.turned0 H1.out.1.W0 (S := fun _ => False) (Turned.refl _ w1).drew id id)).mono ?_)
             rintro e w2 ⟨hb2, hh2⟩
             have hm0 : hasM D (F : Int) = 0 := by
               unfold hasM
               rw [if_neg (by rw [HH.out.1.live.up]; decide), if_neg (by have := HF.out; have := HX.out.2.2.2.2; omega)]
             obtain ⟨v2, x', rfl, hx', hf2⟩ : ∃ v2 x', e = .returned (.tuple #[v2, .int .i64 0]) ∧ D.L[(F : Int).toNat]? = some x' ∧ Fresh w1.drew w2 v2 x'.1 := by
               rcases hh2 with ⟨hbad, _⟩ | ⟨_, h⟩
               · exact absurd hm0 hbad
               · exact h
             have hs2 : w2.cell? ⟨P, 0, none⟩ = some (.pointer (some ⟨D.d, 0, none⟩)) := (hb2.cell (World.block_lt_of_cell? _ _ (by assumption))).trans (by assumption)
             have H2 := Lib.hid (And.intro hb2 (And.intro hx' hf2))
             clear hb2 hx' hf2 hm0 hh2))
      rename_i hHeld
      obtain ⟨hb2, hx', hf2⟩ := H2.out
      have hex : x' = x := by
        rw [Int.toNat_natCast, HF.out, HX.out.2.1] at hx'
        injection hx' with hx'
        exact hx'.symm
      subst hex
      obtain ⟨A2, n2, c2', rfl, hB2, hfr2⟩ := hf2
      have hn2 : n2 = 512 := by rw [← hB2.len]; exact (HH.out.1.disk.row _ _ HX.out.2.1).1
      subst hn2
      have hb1 : Below w1.heap.size w1 w2 := ⟨hb2.os, hb2.tape, hb2.output, hb2.size, hb2.block⟩
      have hc2 := H1.out.1.below hb1
      have c2r : w2.cell? ⟨P, 2, none⟩ = some (.pointer (some ⟨Q.p, 0, none⟩)) := (hc2.blk.cell 2).trans hc2.c2
      have H3 := Lib.hid (And.intro hc2 (And.intro hb1 (And.intro hB2 hfr2)))
      clear hHeld hb2 hx' hB2 hfr2 hb1 hc2 hs2 H2
      go_wp2_with fail
      refine (put_c Q.miss (k : Int) A2 512 c2' x'.1 w2 H3.out.1.pool (by omega) (by have := HH.out.2; have := HH.out.1.n1600; omega) H3.out.2.2.1 (by omega)).mono ?_
      rintro e w3 ⟨a, gone, L, C', h', fr, m', A3, k3, c3', rfl, hat, hp3, ht3, _⟩
      have H4 := Lib.hid (And.intro hat (And.intro hp3 ht3))
      clear hat hp3 ht3 c2r c0
      go_wp2_with fail
      go_ret2
      obtain ⟨hat, hp3, ht3⟩ := H4.out
      obtain ⟨hc2, hb1, hB2, hfr2⟩ := H3.out
      have hfrm : FramesOk D ((Q.miss.swept L C' h').frame a { page := (k : Int), mark := true, A := A3, n := k3, c := c3', l := x'.1 } m') B n f := by
        intro g hg h0
        have hg' : g ∈ L.set a { page := (k : Int), mark := true, A := A3, n := k3, c := c3', l := x'.1 } := hg
        rcases mem_set hg' with rfl | hg'
        · exact ⟨by have := HH.out.2; show (k : Int) ≤ n; omega, HX.out.2.2.2.1, by show D.now[1 + B + (k : Int).toNat]? = _; rw [Int.toNat_natCast]; exact HX.out.2.2.1⟩
        · have hL : ∃ f' ∈ Q.L, f'.page = g.page ∧ f'.l = g.l := by
            rcases hat.2 with ⟨_, _, hL, _⟩ | ⟨_, _, ⟨_, hL, _⟩ | ⟨_, hs⟩, _⟩
            · rw [hL] at hg'; exact ⟨g, hg', rfl, rfl⟩
            · rw [hL] at hg'; exact ⟨g, hg', rfl, rfl⟩
            · exact sweep_frames hs g hg'
          obtain ⟨f', hf', h1, h2⟩ := hL
          have := HH.out.1.frames f' hf' (by omega)
          rw [h1, h2] at this
          exact this
      have hfin := hc2.poolStep (Q' := (Q.miss.swept L C' h').frame a { page := (k : Int), mark := true, A := A3, n := k3, c := c3', l := x'.1 } m') ht3 hp3 rfl rfl hfrm
      refine ⟨.slice A2 512 c2', _, rfl, ?_, hfin, ?_, rfl, rfl, rfl⟩
      · rw [HX.out.1]
        refine ⟨A2, 512, c2', rfl, hB2.turned ht3 hc2.pool.not8, fun g o e => ?_⟩
        have h1 := hfr2 g o e
        have h2 := H1.out.2.size
        simp only [World.size_drew] at h1
        omega
      · exact (H1.out.2.trans (Turned.of_below (S := fun _ => False) hb1) (fun _ _ e => e.elim)).trans ht3 (fun _ _ e => e)
end Go.Proofs.Ytliakkpmmmgmhaa
/- What is kept beside the pages is taken out of its page. -/
namespace Go.Proofs.Ytliakkpmmmgmhaa
open Go.RowKit

theorem infoBo : (Try.prog.info? 4).map (fun i => (i.zero, i.size, i.bytes)) = some (some (.bool false), 1, 1) := by kernel_rfl
theorem BoolsAt.set_ {w : World} {g n c : Nat} {l : List Bool} (h : BoolsAt w g n c l) (i : Nat) (b : Bool) : BoolsAt (w.setCell ⟨g, i, none⟩ (.bool b)) g n c (l.set i b) := by
  obtain ⟨C, hb, hs, hc⟩ := h.blk
  refine ⟨⟨C.setIfInBounds i (.bool b), hb.set_ i _, by simpa using hs, fun j u hj => ?_⟩, by rw [List.length_set]; exact h.len, h.cap, h.most⟩
  by_cases e : i = j
  · subst e
    rw [List.getElem?_set] at hj
    simp at hj
    obtain ⟨hlt, rfl⟩ := hj
    have := h.len
    have := h.cap
    rw [Array.getElem?_setIfInBounds_self_of_lt (by omega)]
  · rw [List.getElem?_set_ne e] at hj
    rw [Array.getElem?_setIfInBounds_ne e]; exact hc j u hj
theorem bools_made {w w' : World} {g n : Nat} (h : w'.ownsRow w.heap.size 4 1 (.slice (some ⟨g, 0, none⟩) n n) n (madeCells (Value.bool false).cells (n * 1)).toList) (hn : n ≤ 100000) : BoolsAt w' g n n (List.replicate n false) := by
  obtain ⟨hb, _⟩ := own_blk h
  have e : (madeCells (Value.bool false).cells (n * 1)).toList = List.replicate n (Value.bool false) := by
    rw [Nat.mul_one]; exact toList_madeCells_one _ _
  rw [e] at hb
  refine ⟨⟨_, hb, by simp, fun i b hi => ?_⟩, List.length_replicate, Nat.le_refl _, by simp only [maxLen]; omega⟩
  rw [List.getElem?_replicate] at hi
  split at hi
  · rename_i hlt
    injection hi with hi; subst hi
    rw [List.getElem?_toArray, List.getElem?_replicate, if_pos hlt]
  · cases hi
/-- The first k truths of a list, then falsehoods. -/
def usedK (used : List Bool) (k : Nat) : List Bool := used.take k ++ List.replicate (used.length - k) false
theorem usedK_zero (used : List Bool) : usedK used 0 = List.replicate used.length false := by simp [usedK]
theorem usedK_full (used : List Bool) : usedK used used.length = used := by simp [usedK]
theorem usedK_len (used : List Bool) {k : Nat} (hk : k ≤ used.length) : (usedK used k).length = used.length := by
  simp [usedK]; omega
theorem usedK_step {used : List Bool} {k : Nat} {b : Bool} (h : used[k]? = some b) : (usedK used k).set k b = usedK used (k + 1) := by
  have hlt := (List.getElem?_eq_some_iff.1 h).1
  apply List.ext_getElem?
  intro j
  rw [List.getElem?_set]
  unfold usedK
  by_cases hj : k = j
  · subst hj
    have h1 : k < (used.take k ++ List.replicate (used.length - k) false).length := by simp; omega
    rw [if_pos rfl, if_pos h1, List.getElem?_append_left (by simp; omega), List.getElem?_take_of_lt (by omega), h]
  · rw [if_neg hj]
    by_cases hjk : j < k
    · rw [List.getElem?_append_left (by simp; omega), List.getElem?_append_left (by simp; omega), List.getElem?_take_of_lt hjk, List.getElem?_take_of_lt (by omega)]
    · rw [List.getElem?_append_right (by simp; omega), List.getElem?_append_right (by simp; omega), List.getElem?_replicate, List.getElem?_replicate]
      simp only [List.length_take]
      by_cases hju : j < used.length
      · rw [if_pos (by omega), if_pos (by omega)]
      · rw [if_neg (by omega), if_neg (by omega)]
/-- What a bit is, as the walk reckons it. -/
theorem bit_and {x r : Nat} (hx : x < 256) : bits BinOp.and IntKind.u8 ((x / 2 ^ r : Nat) : Int) 1 = if Nat.testBit x r then 1 else 0 := by
  have h1 : x / 2 ^ r < 256 := Nat.lt_of_le_of_lt (Nat.div_le_self _ _) hx
  have := u8_and_nat (x / 2 ^ r) 1 h1 (by omega)
  rw [show ((1 : Nat) : Int) = 1 from rfl] at this
  rw [this, Nat.and_one_is_mod]
  rw [Nat.testBit_eq_decide_div_mod_eq]
  have h2 : x / 2 ^ r % 2 = 0 ∨ x / 2 ^ r % 2 = 1 := by omega
  rcases h2 with h2 | h2 <;> simp [h2]
end Go.Proofs.Ytliakkpmmmgmhaa
/- What is kept beside the pages is taken out of its page: the walk. -/
namespace Go.Proofs.Ytliakkpmmmgmhaa
open Go.RowKit

/-- '[]byte(s)'. -/
theorem run_conv_bs (w : World) (l : List UInt8) (hl : l.length ≤ 1000000000) :
    ∃ c w', (convert 9 31 (.string ⟨l.toArray⟩)).run Try.prog w = .ok (.slice (some ⟨w.heap.size, 0, none⟩) l.length c) w' ∧ Bs 5 w' (some ⟨w.heap.size, 0, none⟩) l.length c l ∧ Below w.heap.size w w' ∧ w'.heap.size = w.heap.size + 1 := by
  have hr := Lib.run_convert_string_bytes (P := Try.prog) w 9 31 5 ⟨l.toArray⟩ Try.underlying9 Try.underlying31 Try.underlying5
  have hs : (⟨l.toArray⟩ : ByteArray).size = l.length := by show l.toArray.size = _; simp
  rw [hs] at hr
  refine ⟨_, _, hr, ⟨rfl, grownCap_ge _ _ _ _, grownCap_le_maxLen _ _ _ _ (by simp only [maxLen]; omega), .inr ⟨_, 0, _, _, rfl, Lib.bytesWorld_at_new w _ _, fun j u hu => ?_⟩⟩, ?_, Lib.bytesWorld_size w _ _⟩
  · unfold Lib.bytesCells
    have hj := (List.getElem?_eq_some_iff.1 hu).1
    rw [u8s_length] at hj
    rw [Nat.zero_add, Array.getElem?_append_left (by simpa using hj)]
    simpa [u8s] using hu
  · refine ⟨rfl, rfl, rfl, ?_, fun k hk => Lib.bytesWorld_at_old w _ _ k hk⟩
    rw [Lib.bytesWorld_size]; omega
theorem Bs.from_ {t : TypeId} {w : World} {g o n c : Nat} {l : List UInt8} (h : Bs t w (some ⟨g, o, none⟩) n c l) (k : Nat) (hk : k ≤ n) : Bs t w (some ⟨g, o + k, none⟩) (n - k) (c - k) (l.drop k) := by
  refine ⟨by rw [List.length_drop, h.len], by have := h.cap; omega, by have := h.most; omega, ?_⟩
  rcases h.row with h0 | ⟨g', o', cs, fr, hA, hg, hr⟩
  · exact .inl (by omega)
  · injection hA with hA; injection hA with h1 h2
    subst h1; subst h2
    refine .inr ⟨g, o + k, cs, fr, rfl, hg, fun j u hu => ?_⟩
    have : (u8s l)[k + j]? = some u := by
      rw [← List.getElem?_drop]
      unfold u8s at hu ⊢
      rw [← List.map_drop]; exact hu
    rw [Nat.add_assoc]; exact hr _ _ this
theorem bit_val {x r : Nat} {b : Bool} (hx : x < 256) (hb : Nat.testBit x r = b) {R : Int} (hR : R = ((x / 2 ^ r : Nat) : Int)) : (bits BinOp.and IntKind.u8 R 1 == 1) = b := by
  subst hR
  rw [bit_and hx, hb]
  cases b <;> simp
/-- Cells of the pager itself are set. -/
theorem PgCore.cells {w w' : World} {P : Nat} {C C' : Array Value} {D : DiskG} {Q : PoolG} {B n ob : Nat} {ks : List Int} {f : Int → Option (List UInt8)} (h : PgCore w P C D Q B n ob ks f) (k : Turned (fun x => x = P) w w') (hb : Blk w' P 89 C') (h0 : C'[0]? = C[0]?) (h2 : C'[2]? = C[2]?) (h3 : C'[3]? = C[3]?) (h4 : C'[4]? = C[4]?) (h7 : C'[7]? = C[7]?) : PgCore w' P C' D Q B n ob ks f := by
  have h8 : ∀ g, g = P → Not8 5 w g := fun g e => by subst e; exact h.blk.not8 (by decide)
  exact { h with blk := hb, c0 := h0.trans h.c0, c2 := h2.trans h.c2, c3 := h3.trans h.c3, c4 := h4.trans h.c4, c7 := h7.trans h.c7, disk := h.disk.turned0 h.W0 k (h.disk.bd.ne_ h.blk (by decide)) (h.disk.bb.ne_ h.blk (by decide)), pool := h.pool.turned k (h.pool.bp.ne_ h.blk (by decide)) (h.pool.bf.ne_ h.blk (by decide)) (h.pool.bm.ne_blk h.blk) h8, over := h.over.turned k (h.over.ne_blk h.blk) h8 }
/-- What load leaves. -/
def LoadDone (w : World) (P : Nat) (C : Array Value) (D : DiskG) (Q : PoolG) (B n ob : Nat) (ks : List Int) (f : Int → Option (List UInt8)) (used : List Bool) (root : List UInt8) (e : Ending) (w' : World) : Prop :=
  e = .returned (.int .i64 0) ∧ ∃ M Q', M.used = used ∧ M.root = root ∧ MetaRep w' M ∧ w.heap.size ≤ M.ub ∧ PgCore w' P ((C.setIfInBounds 5 (.slice (some ⟨M.ub, 0, none⟩) M.used.length M.uc)).setIfInBounds 6 (.slice M.rA M.root.length M.rc)) D Q' B n ob ks f ∧ Turned (fun k => Q.own k ∨ k = P) w w' ∧ Q'.p = Q.p ∧ Q'.fb = Q.fb ∧ Q'.mb = Q.mb
def LoadRel (w : World) (g : Nat) (used : List Bool) (i : Value) (wr : World) : Prop :=
  ∃ k : Nat, k ≤ used.length ∧ i = .int .i64 (k : Int) ∧ Hid (BoolsAt wr g used.length used.length (usedK used k)) ∧ Hid (Turned (fun x => x = g) w wr)
set_option linter.unusedSimpArgs false in
set_option maxRecDepth 100000 in
set_option maxHeartbeats 8000000 in
theorem load_c (P : Nat) (C : Array Value) (D : DiskG) (Q : PoolG) (B n ob : Nat) (ks : List Int) (f : Int → Option (List UInt8)) (used : List Bool) (root : List UInt8) (w : World) (h : PgCore w P C D Q B n ob ks f) (hpg : pageOf D B f 0 = encB used root) (hul : used.length = n + 1) (hrl : root.length ≤ 64) (hC : C.size = 10) :
    Calls Try.prog 40 #[.pointer (some ⟨P, 0, none⟩)] w (LoadDone w P C D Q B n ob ks f used root) := by
  have hrd := pread_c P C D Q B n ob ks f 0 w h (Nat.zero_le _)
  have hul2 : used.length ≤ 2000 := by have := h.n1600; omega
  obtain ⟨i0, hi, hz, hs, hb⟩ := info_parts infoBo
  have HH := Lib.hid (And.intro h (And.intro hpg (And.intro hul (And.intro hrl (And.intro hul2 hC)))))
  have HI := Lib.hid (And.intro hi (And.intro hz (And.intro hs hb)))
  have hn0 : (n : Int) ≤ 1600 := by have := h.n1600; omega
  clear h hpg hul hrl hi hz hs hb hul2 hC
  go_enter Try.func40, Try.ntmps40
  go_wp2_with fail
  refine hrd.mono ?_
  clear hrd
  rintro e w1 ⟨v, Q', rfl, hfr, hpc, ht1, hp1, hf1, hm1⟩
  obtain ⟨A, bn, bc, rfl, hB, hfresh⟩ := hfr
  rw [HH.out.2.1] at hB
  have hbn : bn = 512 := by rw [← hB.len]; exact encB_len used root (by rw [List.length_append]; have := numB_ten (n := root.length) (by have := HH.out.2.2.2.1; omega); have := HH.out.2.2.2.1; omega)
  subst hbn
  obtain ⟨bg, bo, rfl, _⟩ := hB.lt (by omega)
  have c4 : w1.cell? ⟨P, 4, none⟩ = some (.int .i64 (n : Int)) := (hpc.blk.cell 4).trans hpc.c4
  have H1 := Lib.hid (And.intro hB (And.intro hfresh (And.intro hpc (And.intro ht1 (And.intro hp1 (And.intro hf1 hm1))))))
  clear hB hfresh hpc ht1 hp1 hf1 hm1
  go_wp2_with (
    (refine at_dst 21 rfl ?_)
    (refine wpList_make_full _ rfl (.tmp 20) (.tmp 20) 84 rfl w1.heap.size 4 i0 _ 1 Try.underlying84 HI.out.1 HI.out.2.1 HI.out.2.2.1 .i64 .i64 ((n : Int) + 1) ((n : Int) + 1) used.length rfl rfl (by rw [HH.out.2.2.1]; omega) (by rw [HH.out.2.2.1]; omega) (by rw [HI.out.2.2.2]; have := HH.out.2.2.2.2.1; omega) (by have := HH.out.2.2.2.2.1; simp only [maxLen]; omega) (Nat.le_refl _) ?_)
    intro w2 hown hgr
    have hbo := bools_made hown (by have := HH.out.2.2.2.2.1; omega)
    have hbel : Below w1.heap.size w1 w2 := ⟨hgr.os, hgr.tape, hgr.output, hgr.size, fun k hk => hgr.block k hk (by simp)⟩
    have hg1 : w1.heap.size < w2.heap.size := by obtain ⟨Cb, hCb, _⟩ := hbo.blk; exact hCb.lt
    have H2 := Lib.hid (And.intro hbo (And.intro hbel hg1))
    clear hown hgr hbo hbel hg1)
  obtain ⟨w3, hw3⟩ : ∃ w3, w3 = w2.alloc (Obj.cells #[Value.slice (some { block := w1.heap.size, off := 0 }) used.length used.length, Value.slice none 0 0] 86) := ⟨_, rfl⟩
  have hm3 : Blk w3 w2.heap.size 86 #[Value.slice (some { block := w1.heap.size, off := 0 }) used.length used.length, Value.slice none 0 0] := by rw [hw3]; exact Blk.new w2 _ _
  have hbel3 : Below w1.heap.size w1 w3 := by rw [hw3]; exact H2.out.2.1.alloc (Nat.le_of_lt H2.out.2.2) _
  have hbo3 : BoolsAt w3 w1.heap.size used.length used.length (usedK used 0) := by
    rw [usedK_zero, hw3]
    exact H2.out.1.below ((Below.refl w2.heap.size w2).alloc (Nat.le_refl _) _)
  have hB3 := H1.out.1.below hbel3
  have H3 := Lib.hid (And.intro hm3 (And.intro hbel3 (And.intro hbo3 hB3)))
  rw [← hw3]
  clear hm3 hbel3 hbo3 hB3 hw3 c4
  go_loopw [26] (fun i wr => LoadRel w3 w1.heap.size used i wr) (fun i _ => used.length - (intOf i).toNat)
  case atStart => exact ⟨0, Nat.zero_le _, rfl, H3.out.2.2.1, Turned.refl _ _⟩
  case round =>
    obtain ⟨k, hk, rfl, HB, HW⟩ := hrel
    have hgm : w2.heap.size ≠ w1.heap.size := by have := H2.out.2.2; omega
    have hgb : bg ≠ w1.heap.size := by
      obtain ⟨g', o', e', hlt⟩ := H1.out.1.lt (by omega)
      injection e' with e'; injection e' with e'
      omega
    have cm : wr.cell? ⟨w2.heap.size, 0, none⟩ = some (.slice (some ⟨w1.heap.size, 0, none⟩) used.length used.length) := HW.out.cell (H3.out.1.cell 0) hgm
    by_cases hkn : k < used.length
    · obtain ⟨b, hb⟩ : ∃ b, used[k]? = some b := ⟨_, List.getElem?_eq_getElem hkn⟩
      obtain ⟨d, hd⟩ : ∃ d, d = k / 8 := ⟨_, rfl⟩
      obtain ⟨r, hr⟩ : ∃ r, r = k % 8 := ⟨_, rfl⟩
      have hd512 : d < 512 := by have := HH.out.2.2.2.2.1; omega
      obtain ⟨g', o', x, hA, hx, hcx⟩ := H3.out.2.2.2.at_ (i := d) hd512
      injection hA with hA; injection hA with hA1 hA2
      subst hA1; subst hA2
      have hbit : Nat.testBit x.toNat r = b := by
        have := bitAt_encB used root k hkn HH.out.2.2.2.2.1
        unfold bitAt at this
        rw [← hd, ← hr, hx, hb] at this
        exact this
      have cb : wr.cell? ⟨bg, bo + d, none⟩ = some (.int .u8 (x.toNat : Int)) := HW.out.cell hcx hgb
      have hBd : BoolsAt wr.drew w1.heap.size used.length used.length (usedK used k) := ⟨HB.out.blk, HB.out.len, HB.out.cap, HB.out.most⟩
      have fb := hBd.set_ k b
      rw [usedK_step hb] at fb
      have hTw := HW.out.drew.setCell (p := ⟨w1.heap.size, k, none⟩) (fun _ => rfl) (.bool b)
      have fz : wr.drew.frozen? ⟨w1.heap.size, k, none⟩ = false := by obtain ⟨Cb, hCb, _⟩ := HB.out.blk; exact hCb.frozen k
      obtain ⟨u, hu⟩ : ∃ u, wr.drew.cell? ⟨w1.heap.size, k, none⟩ = some (.bool u) := ⟨_, HB.out.cell (List.getElem?_eq_getElem (by rw [usedK_len used hk]; exact hkn))⟩
      have HY := Lib.hid (And.intro fb hTw)
      have cb' : wr.drew.cell? ⟨bg, bo + d, none⟩ = some (.int .u8 (x.toNat : Int)) := cb
      have cm' : wr.drew.cell? ⟨w2.heap.size, 0, none⟩ = some (.slice (some ⟨w1.heap.size, 0, none⟩) used.length used.length) := cm
      have hk0 : (0 : Int) ≤ (k : Int) := by omega
      have hk1 : (k : Int) < (used.length : Int) := by omega
      have hul' : (used.length : Int) ≤ 2000 := by have := HH.out.2.2.2.2.1; omega
      have q1 : (k : Int) / 8 = (d : Int) := by omega
      have q2 : (k : Int).tdiv 8 = (d : Int) := by rw [Int.tdiv_eq_ediv_of_nonneg (by omega)]; exact q1
      have q3 : (k : Int) % 8 = (r : Int) := by omega
      have q4 : (k : Int).tmod 8 = (r : Int) := by rw [Int.tmod_eq_emod_of_nonneg (by omega)]; exact q3
      have d0 : (0 : Int) ≤ (d : Int) := by omega
      have d1 : (d : Int) < 512 := by omega
      have hwd : IntKind.i64.wrap (d : Int) = (d : Int) := i64_small (by omega) (by omega)
      have hwr : IntKind.i64.wrap (r : Int) = (r : Int) := i64_small (by omega) (by omega)
      have hr8 : r = 0 ∨ r = 1 ∨ r = 2 ∨ r = 3 ∨ r = 4 ∨ r = 5 ∨ r = 6 ∨ r = 7 := by omega
      have hx256 : x.toNat < 256 := x.toNat_lt
      clear hb fb hTw hBd hd hr hd512 q1 q3 HB HW hx hcx hgm hgb
      go_wp2_with fail
      rcases hr8 with rfl | rfl | rfl | rfl | rfl | rfl | rfl | rfl
      · go_still_tail 14, (by kernel_rfl)
        change wpList _ _ _ _ _ wr.drew
        go_wp2_with fail
        rw [bit_val (r := 0) (R := (x.toNat : Int)) hx256 hbit (by simp)]
        exact ⟨⟨k + 1, by omega, by go_num, HY.out.1, HY.out.2⟩, by simp [intOf]; omega⟩
      · go_still_tail 14, (by kernel_rfl)
        change wpList _ _ _ _ _ wr.drew
        go_wp2_with fail
        rw [bit_val (r := 1) (R := ((x.toNat : Int) / 2)) hx256 hbit (by show _ = ((x.toNat / 2 : Nat) : Int); omega)]
        exact ⟨⟨k + 1, by omega, by go_num, HY.out.1, HY.out.2⟩, by simp [intOf]; omega⟩
      · go_still_tail 14, (by kernel_rfl)
        change wpList _ _ _ _ _ wr.drew
        go_wp2_with fail
        rw [bit_val (r := 2) (R := ((x.toNat : Int) / 4)) hx256 hbit (by show _ = ((x.toNat / 4 : Nat) : Int); omega)]
        exact ⟨⟨k + 1, by omega, by go_num, HY.out.1, HY.out.2⟩, by simp [intOf]; omega⟩
      · go_still_tail 14, (by kernel_rfl)
        change wpList _ _ _ _ _ wr.drew
        go_wp2_with fail
        rw [bit_val (r := 3) (R := ((x.toNat : Int) / 8)) hx256 hbit (by show _ = ((x.toNat / 8 : Nat) : Int); omega)]
        exact ⟨⟨k + 1, by omega, by go_num, HY.out.1, HY.out.2⟩, by simp [intOf]; omega⟩
      · go_still_tail 14, (by kernel_rfl)
        change wpList _ _ _ _ _ wr.drew
        go_wp2_with fail
        rw [bit_val (r := 4) (R := ((x.toNat : Int) / 16)) hx256 hbit (by show _ = ((x.toNat / 16 : Nat) : Int); omega)]
        exact ⟨⟨k + 1, by omega, by go_num, HY.out.1, HY.out.2⟩, by simp [intOf]; omega⟩
      · go_still_tail 14, (by kernel_rfl)
        change wpList _ _ _ _ _ wr.drew
        go_wp2_with fail
        rw [bit_val (r := 5) (R := ((x.toNat : Int) / 32)) hx256 hbit (by show _ = ((x.toNat / 32 : Nat) : Int); omega)]
        exact ⟨⟨k + 1, by omega, by go_num, HY.out.1, HY.out.2⟩, by simp [intOf]; omega⟩
      · go_still_tail 14, (by kernel_rfl)
        change wpList _ _ _ _ _ wr.drew
        go_wp2_with fail
        rw [bit_val (r := 6) (R := ((x.toNat : Int) / 64)) hx256 hbit (by show _ = ((x.toNat / 64 : Nat) : Int); omega)]
        exact ⟨⟨k + 1, by omega, by go_num, HY.out.1, HY.out.2⟩, by simp [intOf]; omega⟩
      · go_still_tail 14, (by kernel_rfl)
        change wpList _ _ _ _ _ wr.drew
        go_wp2_with fail
        rw [bit_val (r := 7) (R := ((x.toNat : Int) / 128)) hx256 hbit (by show _ = ((x.toNat / 128 : Nat) : Int); omega)]
        exact ⟨⟨k + 1, by omega, by go_num, HY.out.1, HY.out.2⟩, by simp [intOf]; omega⟩
    · obtain rfl : k = used.length := by omega
      have hB4 := (H3.out.2.2.2).turned' HW.out (fun g o e => by injection e with e; injection e with e1 e2; rw [← e1]; exact hgb)
      have hb4 : Bs 5 wr (some ⟨bg, bo + 256, none⟩) 256 (bc - 256) ((encB used root).drop 256) := hB4.from_ 256 (by omega)
      have hm4 := H3.out.1.turned HW.out hgm
      have hpc4 := H1.out.2.2.1.below H3.out.2.1
      have hbc : ¬ bc = 256 := by have := hB4.cap; omega
      have hel : (encB used root).drop 256 = numB root.length ++ (root ++ zeros (256 - (numB root.length ++ root).length)) := by
        unfold encB
        rw [List.append_assoc, List.drop_append_of_le_length (by rw [List.length_take, encK_len]; decide), List.drop_of_length_le (by rw [List.length_take, encK_len]; decide), List.nil_append, List.append_assoc]
      rw [hel] at hb4
      have H4 := Lib.hid (And.intro hb4 (And.intro hm4 hpc4))
      clear hB4 hb4 hm4 hpc4 cm hgm hgb hel
      go_wp2_with fail
      refine (read_c _ _ _ _ _ H4.out.1 (by omega)).mono ?_
      rintro e w5 ⟨r, A5, c5, rfl, hr5, hrs5, hbel5⟩
      have htx := rtext_c 64 (by omega) r _ 0 A5 c5 w5 hr5 (by have := H4.out.1.len; omega)
      rw [textM_text 64 root _ (by have := HH.out.2.2.2.1; omega) HH.out.2.2.2.1] at htx
      have H5 := Lib.hid (And.intro hrs5 hbel5)
      clear hr5 hrs5 hbel5 hbc
      go_wp2_with fail
      refine htx.mono ?_
      clear htx
      rintro e w6 ⟨rfl, ht6, A6, c6, hr6⟩
      have hm6 : Blk w6 w2.heap.size 86 #[Value.slice (some { block := w1.heap.size, off := 0 }) used.length used.length, Value.slice none 0 0] := by
        have h5 := H4.out.2.1
        have h6 := H5.out.2.block _ h5.lt
        refine Blk.turned (h6.trans h5) ht6 ?_
        have h7 := h5.lt
        have h8 := H5.out.1
        show ¬ _ = _
        omega
      obtain ⟨c7, w7, hcv, hB7, hbel7, hs7⟩ := run_conv_bs w6 root (by have := HH.out.2.2.2.1; omega)
      have hm7 := hm6.below hbel7 hm6.lt
      have c70 : w7.cell? ⟨w2.heap.size, 1, none⟩ = some (.slice none 0 0) := hm7.cell 1
      have c7a : w7.cell? ⟨w2.heap.size, 0, none⟩ = some (Value.slice (some { block := w1.heap.size, off := 0 }) used.length used.length) := hm7.cell 0
      have f70 := hm7.frozen 1
      have hS7 : Turned (fun k => k = w1.heap.size ∨ k = r) w3 w7 := (HW.out.more (fun _ _ => .inl)).trans ((Turned.of_below (S := fun k => k = r) H5.out.2).trans (ht6.trans (Turned.of_below (S := fun k => k = r) hbel7) (fun _ _ e => e)) (fun _ _ e => e)) (fun _ _ e => .inr e)
      have hlt0 : P < w1.heap.size := H1.out.2.2.1.blk.lt
      have hpP : Blk w7 P 89 C := by
        refine H4.out.2.2.blk.turned hS7 ?_
        have h8 := H5.out.1
        have h9 := H3.out.2.1.size
        have h10 := HW.out.size
        show ¬ (_ ∨ _)
        omega
      obtain ⟨u5, hu5⟩ : ∃ u5, C[5]? = some u5 := ⟨_, Array.getElem?_eq_getElem (by have := HH.out.2.2.2.2.2; omega)⟩
      obtain ⟨u6', hu6⟩ : ∃ u6', C[6]? = some u6' := ⟨_, Array.getElem?_eq_getElem (by have := HH.out.2.2.2.2.2; omega)⟩
      have cP5 : w7.cell? ⟨P, 5, none⟩ = some u5 := (hpP.cell 5).trans hu5
      have cP6 : w7.cell? ⟨P, 6, none⟩ = some u6' := (hpP.cell 6).trans hu6
      have fP5 := hpP.frozen 5
      have fP6 := hpP.frozen 6
      have hPm : ¬ w2.heap.size = P := by have := H2.out.2.2; omega
      have hPm' : ¬ P = w2.heap.size := by have := H2.out.2.2; omega
      have H6 := Lib.hid (And.intro ht6 (And.intro hr6 (And.intro hB7 (And.intro hbel7 (And.intro hs7 (And.intro hm6 hm7))))))
      have H7 := Lib.hid (And.intro hS7 (And.intro hpP hlt0))
      clear ht6 hr6 hB7 hbel7 hs7 hm6 hm7 hS7 hpP hlt0 hu5 hu6
      go_wp2_with fail
      obtain ⟨W, hW⟩ : ∃ W, W = ((w7.setCell ⟨w2.heap.size, 1, none⟩ (.slice (some ⟨w6.heap.size, 0, none⟩) root.length c7)).setCell ⟨P, 5, none⟩ (.slice (some ⟨w1.heap.size, 0, none⟩) used.length used.length)).setCell ⟨P, 6, none⟩ (.slice (some ⟨w6.heap.size, 0, none⟩) root.length c7) := ⟨_, rfl⟩
      have hTW : Turned (fun k => k = w2.heap.size ∨ k = P) w7 W := by
        rw [hW]
        exact (((Turned.refl _ w7).setCell (p := ⟨w2.heap.size, 1, none⟩) (fun _ => .inl rfl) _).setCell (p := ⟨P, 5, none⟩) (fun _ => .inr rfl) _).setCell (p := ⟨P, 6, none⟩) (fun _ => .inr rfl) _
      have hPW : Blk W P 89 ((C.setIfInBounds 5 (.slice (some ⟨w1.heap.size, 0, none⟩) used.length used.length)).setIfInBounds 6 (.slice (some ⟨w6.heap.size, 0, none⟩) root.length c7)) := by
        rw [hW]
        exact ((H7.out.2.1.far (p := ⟨w2.heap.size, 1, none⟩) hPm' _).set_ 5 _).set_ 6 _
      rw [← hW]
      have hrW : RdrRep W r (zeros (256 - (numB root.length ++ root).length)) 0 A6 c6 := by
        have hr7b := H6.out.2.1.blk.below H6.out.2.2.2.1 H6.out.2.1.blk.lt
        have hr7s := H6.out.2.1.bs.below H6.out.2.2.2.1
        refine ⟨hr7b.turned hTW ?_, hr7s.turned hTW ?_⟩
        · have h1 := hr7b.ne_ H6.out.2.2.2.2.2.2 (by decide)
          have h2 := hr7b.ne_ H7.out.2.1 (by decide)
          rintro (e | e)
          · exact h1 e
          · exact h2 e
        · rintro g (rfl | rfl)
          · exact H6.out.2.2.2.2.2.2.not8 (by decide)
          · exact H7.out.2.1.not8 (by decide)
      have HWW := Lib.hid (And.intro hTW hPW)
      have HBU := Lib.hid (And.intro HB.out HW.out)
      clear hTW hPW hW cP5 cP6 fP5 fP6 c70 c7a f70 hcv HB HW
      refine (err_c r _ 0 A6 c6 W hrW).mono ?_
      clear hrW
      rintro e w8 ⟨rfl, rfl⟩
      go_wp2_with fail
      go_ret
      have hlt := H2.out.2.2
      have hs3 := H3.out.2.1.size
      have hsr := HBU.out.2.size
      have hr5 := H5.out.1
      have hT3 : Turned (fun k => k = w1.heap.size ∨ k = r ∨ k = w2.heap.size ∨ k = P) w3 W := (H7.out.1.more (fun k _ (e : k = w1.heap.size ∨ k = r) => by omega)).trans HWW.out.1 (fun k _ e => .inr (.inr e))
      have hT1 : Turned (fun k => k = P) w1 W := (Turned.of_below (S := fun k => k = P) H3.out.2.1).trans hT3 (fun k hk (e : k = w1.heap.size ∨ k = r ∨ k = w2.heap.size ∨ k = P) => by show k = P; omega)
      have hTr : Turned (fun k => k = r ∨ k = w2.heap.size ∨ k = P) wr W := ((Turned.of_below (S := fun k => k = r ∨ k = w2.heap.size ∨ k = P) H5.out.2).trans ((H6.out.1.more (S' := fun k => k = r ∨ k = w2.heap.size ∨ k = P) (fun _ _ e => .inl e)).trans (Turned.of_below (S := fun k => k = r ∨ k = w2.heap.size ∨ k = P) H6.out.2.2.2.1) (fun _ _ e => e)) (fun _ _ e => e)).trans HWW.out.1 (fun k _ e => .inr e)
      refine ⟨rfl, ⟨w1.heap.size, used.length, used, some ⟨w6.heap.size, 0, none⟩, c7, root⟩, Q', rfl, rfl, ⟨?_, ?_, HH.out.2.2.2.1⟩, H1.out.2.2.2.1.size, H1.out.2.2.1.cells hT1 HWW.out.2 ?_ ?_ ?_ ?_ ?_, ?_, H1.out.2.2.2.2.1, H1.out.2.2.2.2.2.1, H1.out.2.2.2.2.2.2⟩
      · have := HBU.out.1.turned hTr (by have := H7.out.2.2; have := H3.out.1.lt; show ¬ (_ ∨ _ ∨ _); omega)
        rw [usedK_full] at this
        exact this
      · refine H6.out.2.2.1.turned HWW.out.1 ?_
        rintro g (rfl | rfl)
        · exact H6.out.2.2.2.2.2.2.not8 (by decide)
        · exact H7.out.2.1.not8 (by decide)
      all_goals first
        | (simp; done)
        | exact (H1.out.2.2.2.1.more (fun _ _ => .inl)).trans hT1 (fun k _ e => .inr e)
        | skip
end Go.Proofs.Ytliakkpmmmgmhaa
/- A record's pages are laid over the others. -/
namespace Go.Proofs.Ytliakkpmmmgmhaa
open Go.RowKit

/-- Pages as a record has them. -/
def pagesB : List (Nat × List UInt8) → List UInt8
  | [] => []
  | x :: t => numB x.1 ++ (numB x.2.length ++ (x.2 ++ pagesB t))
/-- A record. -/
def recB (L : List (Nat × List UInt8)) : List UInt8 := numB L.length ++ pagesB L
def redoF (f : Int → Option (List UInt8)) (L : List (Nat × List UInt8)) : Int → Option (List UInt8) := L.foldl (fun f x => pput f (x.1 : Int) x.2) f
def redoK (ks : List Int) (L : List (Nat × List UInt8)) : List Int := L.foldl (fun ks x => kput ks (x.1 : Int)) ks
/-- A record's pages are pages of the store. -/
def RecOk (n : Nat) (L : List (Nat × List UInt8)) : Prop := L.length ≤ 1601 ∧ ∀ x ∈ L, x.1 ≤ n ∧ x.2.length = 512
theorem pagesB_len {n : Nat} : ∀ L : List (Nat × List UInt8), n ≤ 1600 → (∀ x ∈ L, x.1 ≤ n ∧ x.2.length = 512) → (pagesB L).length ≤ 600 * L.length
  | [], _, _ => Nat.le_refl _
  | x :: t, hn, h => by
    have h1 := h x (List.mem_cons_self ..)
    have h2 := pagesB_len t hn (fun y hy => h y (List.mem_cons_of_mem _ hy))
    have h3 := numB_ten (n := x.1) (by omega)
    have h4 := numB_ten (n := x.2.length) (by omega)
    simp only [pagesB, List.length_append, List.length_cons]
    omega
theorem redoF_step {f : Int → Option (List UInt8)} {L : List (Nat × List UInt8)} {k : Nat} {x : Nat × List UInt8} (h : L[k]? = some x) : redoF f (L.take (k + 1)) = pput (redoF f (L.take k)) (x.1 : Int) x.2 := by
  unfold redoF
  rw [List.take_add_one, h]; simp
theorem redoK_step {ks : List Int} {L : List (Nat × List UInt8)} {k : Nat} {x : Nat × List UInt8} (h : L[k]? = some x) : redoK ks (L.take (k + 1)) = kput (redoK ks (L.take k)) (x.1 : Int) := by
  unfold redoK
  rw [List.take_add_one, h]; simp
theorem pagesB_drop {L : List (Nat × List UInt8)} {k : Nat} {x : Nat × List UInt8} (h : L[k]? = some x) : pagesB (L.drop k) = numB x.1 ++ (numB x.2.length ++ (x.2 ++ pagesB (L.drop (k + 1)))) := by
  obtain ⟨hlt, he⟩ := List.getElem?_eq_some_iff.1 h
  rw [List.drop_eq_getElem_cons hlt, he]; rfl
def RedoRel (w2 : World) (r ob : Nat) (L : List (Nat × List UInt8)) (ks : List Int) (f : Int → Option (List UInt8)) (i : Value) (wr : World) : Prop :=
  ∃ k : Nat, k ≤ L.length ∧ i = .int .i64 (k : Int) ∧ (∃ A c, Hid (RdrRep wr r (pagesB (L.drop k)) 0 A c)) ∧ Hid (PMap wr ob (redoK ks (L.take k)) (redoF f (L.take k))) ∧ Hid (Turned (fun x => x = ob ∨ x = r) w2 wr)
def RedoDone (w : World) (P : Nat) (C : Array Value) (D : DiskG) (Q : PoolG) (B n ob : Nat) (ks : List Int) (f : Int → Option (List UInt8)) (L : List (Nat × List UInt8)) (e : Ending) (w' : World) : Prop :=
  e = .returned (.int .i64 0) ∧ PgCore w' P C D Q B n ob (redoK ks L) (redoF f L) ∧ Turned (fun k => k = ob) w w'
theorem redoF_keys {n : Nat} : ∀ (L : List (Nat × List UInt8)) (f : Int → Option (List UInt8)), (∀ n' l, f n' = some l → 0 ≤ n' ∧ n' ≤ n ∧ l.length = 512) → (∀ x ∈ L, x.1 ≤ n ∧ x.2.length = 512) → ∀ n' l, redoF f L n' = some l → 0 ≤ n' ∧ n' ≤ n ∧ l.length = 512
  | [], f, h, _ => h
  | x :: t, f, h, hx => by
    have h1 := hx x (List.mem_cons_self ..)
    refine redoF_keys t (pput f (x.1 : Int) x.2) ?_ (fun y hy => hx y (List.mem_cons_of_mem _ hy))
    intro n' l e
    unfold pput at e
    split at e
    · rename_i e'; injection e with e; subst e; subst e'; exact ⟨by omega, by omega, h1.2⟩
    · exact h n' l e
set_option linter.unusedSimpArgs false in
set_option maxRecDepth 100000 in
set_option maxHeartbeats 8000000 in
theorem redo_c {tb : TypeId} (P : Nat) (C : Array Value) (D : DiskG) (Q : PoolG) (B n ob : Nat) (ks : List Int) (f : Int → Option (List UInt8)) (L : List (Nat × List UInt8)) (A : Option Addr) (sn c : Nat) (w : World) (h : PgCore w P C D Q B n ob ks f) (hfree : ∀ fr ∈ Q.L, fr.page < 0) (hL : RecOk n L) (hs : Bs tb w A sn c (recB L)) :
    Calls Try.prog 39 #[.pointer (some ⟨P, 0, none⟩), .slice A sn c] w (RedoDone w P C D Q B n ob ks f L) := by
  have hpl := pagesB_len L h.n1600 hL.2
  have hnl := numB_ten (n := L.length) (by have := hL.1; omega)
  have hsn : sn ≤ 1000000 := by
    have := hs.len
    unfold recB at this
    rw [List.length_append] at this
    have := hL.1
    omega
  have hrd := read_c A sn c (recB L) w hs (by omega)
  have HH := Lib.hid (And.intro h (And.intro hfree (And.intro hL hpl)))
  have hll : (L.length : Int) ≤ 1601 := by have := hL.1; omega
  clear h hfree hL hs hpl hnl hsn
  go_enter Try.func39, Try.ntmps39
  go_wp2_with fail
  refine hrd.mono ?_
  clear hrd
  rintro e w1 ⟨r, A1, c1, rfl, hr1, hrs1, hbel1⟩
  have hcn := count_c 1601 (by omega) r _ 0 A1 c1 w1 hr1 (by
    have h1 := HH.out.2.2.1.1
    have h2 := HH.out.2.2.2
    have := numB_ten (n := L.length) (by omega)
    unfold recB; rw [List.length_append]; omega)
  unfold recB at hcn
  rw [countM_num 1601 L.length _ (by have := HH.out.2.2.1.1; omega) HH.out.2.2.1.1] at hcn
  have hrL : w1.heap.size > r := hr1.blk.lt
  have hr8 : Not8 5 w1 r := hr1.blk.not8 (by decide)
  have H1 := Lib.hid (And.intro hrs1 (And.intro hbel1 (And.intro hrL hr8)))
  clear hr1 hrs1 hbel1 hrL hr8
  go_wp2_with fail
  refine hcn.mono ?_
  clear hcn
  rintro e w2 ⟨rfl, ht2, A2, c2, hr2⟩
  have hpc2 := HH.out.1.below H1.out.2.1
  have hPr : P ≠ r := by have := HH.out.1.blk.lt; have := H1.out.1; omega
  have hor : ob ≠ r := by have := HH.out.1.over.lt; have := H1.out.1; omega
  have hP2 := hpc2.blk.turned ht2 hPr
  have hO2 := hpc2.over.turned ht2 hor (fun k (e : k = r) => by subst e; exact H1.out.2.2.2)
  have H2 := Lib.hid (And.intro hr2 (And.intro hP2 (And.intro hO2 (And.intro ht2 (And.intro hPr hor)))))
  clear hr2 hP2 hO2 ht2 hpc2 hPr hor
  go_wp2_with fail
  go_loopw [14] (fun i wr => RedoRel w2 r ob L ks f i wr) (fun i _ => L.length - (intOf i).toNat)
  case atStart => exact ⟨0, Nat.zero_le _, rfl, ⟨A2, c2, H2.out.1⟩, H2.out.2.2.1, Turned.refl _ _⟩
  case round =>
    obtain ⟨k, hk, rfl, ⟨A3, c3, HR⟩, HO, HW⟩ := hrel
    have hPo : ¬ (P = ob ∨ P = r) := by
      rintro (e | e)
      · exact HH.out.1.over.ne_blk HH.out.1.blk e.symm
      · exact H2.out.2.2.2.2.1 e
    have c4 : wr.cell? ⟨P, 4, none⟩ = some (.int .i64 (n : Int)) := ((H2.out.2.1.turned HW.out hPo).cell 4).trans HH.out.1.c4
    have c6 : wr.cell? ⟨P, 7, none⟩ = some (.map (some ob)) := ((H2.out.2.1.turned HW.out hPo).cell 7).trans HH.out.1.c7
    by_cases hkn : k < L.length
    · obtain ⟨x, hx⟩ : ∃ x, L[k]? = some x := ⟨_, List.getElem?_eq_getElem hkn⟩
      obtain ⟨hx1, hx2⟩ := HH.out.2.2.1.2 x (List.mem_of_getElem? hx)
      have hn16 := HH.out.1.n1600
      have hdl : (pagesB (L.drop k)).length ≤ 1000000 := by
        have := pagesB_len (L.drop k) hn16 (fun y hy => HH.out.2.2.1.2 y (List.mem_of_mem_drop hy))
        have h2 := HH.out.2.2.1.1
        rw [List.length_drop] at this
        omega
      have hcn := count_c n (by omega) r _ 0 A3 c3 wr HR.out (by omega)
      rw [pagesB_drop hx] at hcn
      rw [countM_num n x.1 _ (by omega) hx1] at hcn
      have hrest : (pagesB (L.drop (k + 1))).length ≤ 1000000 := by
        have := pagesB_len (L.drop (k + 1)) hn16 (fun y hy => HH.out.2.2.1.2 y (List.mem_of_mem_drop hy))
        have h2 := HH.out.2.2.1.1
        rw [List.length_drop] at this
        omega
      have hf := redoF_step (f := f) hx
      have hkk := redoK_step (ks := ks) hx
      have HX := Lib.hid (And.intro hx1 (And.intro hx2 (And.intro hf (And.intro hkk hrest))))
      have hk1 : (k : Int) < (L.length : Int) := by omega
      clear hx hx1 hx2 hf hkk hdl hrest hn16
      go_wp2_with fail
      refine hcn.mono ?_
      clear hcn
      rintro e w3 ⟨rfl, ht3, A4, c4', hr3⟩
      have htx := rtext_c 512 (by omega) r _ 0 A4 c4' w3 hr3 (by
        have := numB_ten (n := x.2.length) (by have := HX.out.2.1; omega)
        have := HX.out.2.1
        have := HX.out.2.2.2.2
        simp only [List.length_append]; omega)
      rw [textM_text 512 x.2 _ (by have := HX.out.2.1; omega) (by have := HX.out.2.1; omega)] at htx
      have hr38 : Not8 5 w3 r := hr3.blk.not8 (by decide)
      have H3 := Lib.hid (And.intro ht3 hr38)
      clear hr3 ht3 hr38
      go_wp2_with fail
      refine htx.mono ?_
      clear htx
      rintro e w4 ⟨rfl, ht4, A5, c5, hr4⟩
      have her := err_c r _ 0 A5 c5 w4 hr4
      have H4 := Lib.hid (And.intro ht4 hr4)
      clear ht4 hr4
      go_wp2_with fail
      refine her.mono ?_
      clear her
      rintro e w4' ⟨rfl, rfl⟩
      have hsz : (⟨x.2.toArray⟩ : ByteArray).size = 512 := by show x.2.toArray.size = _; rw [List.size_toArray]; exact HX.out.2.1
      have ht34 : Turned (fun y => y = r) wr w4 := H3.out.1.trans H4.out.1 (fun _ _ e => e)
      obtain ⟨c9, w5, hcv, hB5, hbel5, hs5⟩ := run_conv_bs w4 x.2 (by have := HX.out.2.1; omega)
      rw [HX.out.2.1] at hcv hB5
      have c7w : w4.cell? ⟨P, 7, none⟩ = some (.map (some ob)) := ht34.cell c6 (by show ¬ P = r; exact H2.out.2.2.2.2.1)
      have hr8w : Not8 5 wr r := HR.out.blk.not8 (by decide)
      have hO5 := (HO.out.turned ht34 H2.out.2.2.2.2.2 (fun y (e : y = r) => by subst e; exact hr8w)).below hbel5
      have H5 := Lib.hid (And.intro ht34 (And.intro hB5 (And.intro hbel5 (And.intro hs5 hO5))))
      clear ht34 hB5 hbel5 hs5 hr8w hO5
      go_wp2_with (
        at_mapUpdate
        (refine wpList_pput rfl (.tmp 35) (.tmp 36) (.tmp 38) 82 rfl Try.underlying82 Try.underlying3 rfl (x.1 : Int) rfl _ c9 x.2 rfl H5.out.2.2.2.2 H5.out.2.1 ?_)
        intro w6 hm6 ht6 hs6
        have H6 := Lib.hid (And.intro hm6 ht6)
        clear hm6 ht6 hs6)
      have hob8 : ¬ r = ob := fun e => H2.out.2.2.2.2.2 e.symm
      have hr6 := (H4.out.2.blk.below H5.out.2.2.1 H4.out.2.blk.lt)
      have hr6s := (H4.out.2.bs.below H5.out.2.2.1)
      have hTf : Turned (fun y => y = ob ∨ y = r) w2 w6 := (HW.out.trans ((H5.out.1.trans (Turned.of_below (S := fun y => y = r) H5.out.2.2.1) (fun _ _ e => e))) (fun _ _ e => .inr e)).trans H6.out.2 (fun _ _ e => .inl e)
      go_roundw
      case rel =>
        refine ⟨k + 1, by omega, by go_num, ⟨A5, c5, ⟨hr6.turned H6.out.2 hob8, hr6s.turned H6.out.2 (fun y (e : y = ob) => by subst e; exact H5.out.2.2.2.2.not8)⟩⟩, ?_, hTf⟩
        show PMap _ _ _ _
        rw [HX.out.2.2.1, HX.out.2.2.2.1]
        exact H6.out.1
      case measure => simp [intOf]; omega
    · obtain rfl : k = L.length := by omega
      have hen := end_c r _ 0 A3 c3 wr HR.out
      rw [List.drop_length] at hen
      have he0 : endM (pagesB []) 0 = 0 := rfl
      rw [he0] at hen
      clear c4 c6
      go_wp2_with fail
      refine hen.mono ?_
      clear hen
      rintro e w3 ⟨rfl, ht3, hr3⟩
      have H3 := Lib.hid (And.intro ht3 hr3)
      clear ht3 hr3
      go_wp2_with fail
      go_ret
      obtain ⟨hcore, hfree, hL, hpl⟩ := HH.out
      have hT2 : Turned (fun y => y = ob ∨ y = r) w2 w3 := HW.out.trans H3.out.1 (fun _ _ e => .inr e)
      have hTw1 : Turned (fun y => y = ob ∨ y = r) w1 w3 := (H2.out.2.2.2.1.more (S' := fun y => y = ob ∨ y = r) (fun _ _ e => .inr e)).trans hT2 (fun _ _ e => e)
      have hTw : Turned (fun y => y = ob) w w3 := (Turned.of_below (S := fun y => y = ob) H1.out.2.1).trans hTw1 (fun y hy e => by
        rcases e with e | e
        · exact e
        · have := H1.out.1; omega)
      have hO3 := HO.out.turned H3.out.1 H2.out.2.2.2.2.2 (fun y (e : y = r) => by subst e; exact HR.out.blk.not8 (by decide))
      rw [List.take_length] at hO3
      have hobP : ∀ {g : Nat} {t : TypeId} {cs : Array Value}, Blk w g t cs → ¬ g = ob := fun hb e => hcore.over.ne_blk hb e.symm
      refine ⟨rfl, ?_, hTw⟩
      exact { hcore with blk := hcore.blk.turned hTw (hobP hcore.blk), disk := hcore.disk.turned0 hcore.W0 hTw (hobP hcore.disk.bd) (hobP hcore.disk.bb), pool := hcore.pool.turned hTw (hobP hcore.pool.bp) (hobP hcore.pool.bf) (fun e => hcore.ne1 e.symm) (fun y (e : y = ob) => by subst e; exact hcore.over.not8), over := hO3, frames := fun fr hfr h0 => absurd (hfree fr hfr) (by omega), keys := redoF_keys L f hcore.keys hL.2 }
end Go.Proofs.Ytliakkpmmmgmhaa
