/- Parts of the proof, put together: Range, Pgi, Sorted, Pgj, Pgk, Pgl. -/
import Derived.Test.YtliakkpmmmgmhaaMRowPagerMost1
import Derived.Maps.RangeRun
import Derived.Maps.RangeWalk
import Derived.Test.YtliakkpmmmgmhaaMRowPagerMost6
import Derived.Sort.OwnSortedInts
/- A range over a map whose keys are whole numbers: what it has come past. No program in it. -/
namespace Go.Proofs.Ytliakkpmmmgmhaa
open Go.RowKit
open Go.ChangeMaps (setBlock)

/-- A range (its state in block r) over the map in block b, which has come past the keys xs. -/
structure Ranging (w : World) (b r : Nat) (m : List (Int × Value)) (xs : List Int) : Prop where
  ex : ∃ es clock since seen c0, w.heap[b]? = some (.map es clock) ∧ Entries es m ∧ (es.toList.map (·.born)).Nodup ∧ (∀ e ∈ es.toList, e.born < since) ∧ since ≤ clock ∧ w.heap[r]? = some (.mapIter (some b) since seen c0) ∧ since ≤ c0 ∧ (∀ e ∈ es.toList, seen.contains e.born = true ↔ ∃ n ∈ xs, e.key = .int .i64 n)
  keys : (m.map (·.1)).Nodup
  nodup : xs.Nodup
  sub : ∀ n ∈ xs, n ∈ m.map (·.1)

theorem mget_of_mem {m : List (Int × Value)} (h : (m.map (·.1)).Nodup) {n : Int} {v : Value} (hm : (n, v) ∈ m) : mget m n = some v := by
  cases hg : mget m n with
  | none => exact absurd rfl (mget_none.1 hg _ hm)
  | some u =>
    have h1 := mget_some_mem hg
    have : ∀ {l : List (Int × Value)}, (l.map (·.1)).Nodup → (n, v) ∈ l → (n, u) ∈ l → u = v := by
      intro l
      induction l with
      | nil => intro _ h; cases h
      | cons x l ih =>
        intro hn ha hb
        simp only [List.map_cons, List.nodup_cons] at hn
        rcases List.mem_cons.1 ha with ha | ha <;> rcases List.mem_cons.1 hb with hb | hb
        · rw [← ha] at hb; injection hb
        · exact absurd (List.mem_map.2 ⟨_, hb, rfl⟩) (by rw [← ha] at hn; exact hn.1)
        · exact absurd (List.mem_map.2 ⟨_, ha, rfl⟩) (by rw [← hb] at hn; exact hn.1)
        · exact ih hn.2 ha hb
    rw [this h hm h1]
theorem entries_mem {es : Array MapEntry} {m : List (Int × Value)} (h : Entries es m) {e : MapEntry} (he : e ∈ es.toList) : ∃ n v, e.key = .int .i64 n ∧ e.val = v ∧ (n, v) ∈ m := by
  have h1 : (e.key, e.val) ∈ es.toList.map (fun e => (e.key, e.val)) := List.mem_map.2 ⟨e, he, rfl⟩
  unfold Entries at h
  rw [h] at h1
  obtain ⟨x, hx, h2⟩ := List.mem_map.1 h1
  injection h2 with h3 h4
  exact ⟨x.1, x.2, h3.symm, h4.symm, hx⟩
theorem entries_has {es : Array MapEntry} {m : List (Int × Value)} (h : Entries es m) {x : Int × Value} (hx : x ∈ m) : ∃ e ∈ es.toList, e.key = .int .i64 x.1 := by
  have h1 : (Value.int .i64 x.1, x.2) ∈ m.map (fun x => (Value.int .i64 x.1, x.2)) := List.mem_map.2 ⟨x, hx, rfl⟩
  unfold Entries at h
  rw [← h] at h1
  obtain ⟨e, he, h2⟩ := List.mem_map.1 h1
  injection h2 with h3 h4
  exact ⟨e, he, h3⟩

section
variable {P : Program} {w w' : World} {b r : Nat} {m : List (Int × Value)} {xs : List Int}
theorem Ranging.imap (h : Ranging w b r m xs) : IMap w b m := by
  obtain ⟨⟨es, clock, since, seen, c0, h1, h2, h3, h4, h5, h6, h7, h8⟩, hk, _⟩ := h
  exact ⟨⟨es, clock, h1, h2, h3, fun e he => Nat.lt_of_lt_of_le (h4 e he) h5⟩, hk⟩
theorem Ranging.lt (h : Ranging w b r m xs) : r < w.heap.size := by
  obtain ⟨⟨es, clock, since, seen, c0, h1, h2, h3, h4, h5, h6, h7, h8⟩, hk, _⟩ := h
  exact (Array.getElem?_eq_some_iff.1 h6).1
theorem Ranging.not8 (h : Ranging w b r m xs) {t : TypeId} : Not8 t w r := by
  obtain ⟨⟨es, clock, since, seen, c0, h1, h2, h3, h4, h5, h6, h7, h8⟩, hk, _⟩ := h
  intro cs fr e
  rw [h6] at e; cases e
theorem Ranging.ne (h : Ranging w b r m xs) : r ≠ b := by
  obtain ⟨⟨es, clock, since, seen, c0, h1, h2, h3, h4, h5, h6, h7, h8⟩, hk, _⟩ := h
  rintro rfl
  rw [h1] at h6; cases h6
theorem Ranging.turned {S : Nat → Prop} (h : Ranging w b r m xs) (k : Turned S w w') (h1 : ¬ S b) (h2 : ¬ S r) : Ranging w' b r m xs := by
  have hb := h.imap.lt
  have hr := h.lt
  obtain ⟨⟨es, clock, since, seen, c0, e1, e2, e3, e4, e5, e6, e7, e8⟩, hk, hn, hs⟩ := h
  exact ⟨⟨es, clock, since, seen, c0, (k.block b hb h1).trans e1, e2, e3, e4, e5, (k.block r hr h2).trans e6, e7, e8⟩, hk, hn, hs⟩
theorem Ranging.below (h : Ranging w b r m xs) (k : Below w.heap.size w w') : Ranging w' b r m xs := h.turned (S := fun _ => False) (Turned.of_below k) id id
theorem Ranging.drew (h : Ranging w b r m xs) : Ranging w.drew b r m xs := h.turned (S := fun _ => False) (Turned.refl _ w).drew id id
theorem Ranging.le (h : Ranging w b r m xs) : xs.length ≤ m.length := by
  have h1 := h.nodup
  have := List.Nodup.length_le_of_subset h1 h.sub
  simpa using this
theorem IMap.range (h : IMap w b m) {T K E : TypeId} (hT : P.underlying T = some (.map K E)) :
    ∃ w', (Instr.range T (.map (some b))).run P w = .ok (.pointer (some ⟨w.heap.size, 0, none⟩)) w' ∧ Ranging w' b w.heap.size m [] ∧ Below w.heap.size w w' ∧ w'.heap.size = w.heap.size + 1 := by
  have hlt := h.lt
  obtain ⟨⟨es, clock, h1, h2, h3, h4⟩, hn⟩ := h
  refine ⟨_, run_range_map w T K E b es clock hT h1, ⟨⟨es, clock, clock, #[], clock, ((MapKept.heap_alloc w _).2 b hlt).trans h1, h2, h3, h4, Nat.le_refl _, (MapKept.heap_alloc w _).1, Nat.le_refl _, fun e he => by simp⟩, hn, List.nodup_nil, by simp⟩, (Below.refl _ _).alloc (Nat.le_refl _) _, by simp⟩
theorem turned_block {o : Obj} {r : Nat} {w w1 : World} (hw : w1 = w ∨ w1 = w.drew) : Turned (fun k => k = r) w (setBlock w1 r o) ∧ (setBlock w1 r o).heap.size = w.heap.size := by
  have hh : ∀ k, k ≠ r → (setBlock w1 r o).heap[k]? = w1.heap[k]? := fun k hne => by
    simp only [setBlock, Array.getElem?_setIfInBounds]
    rw [if_neg (fun e => hne e.symm)]
  rcases hw with rfl | rfl
  · exact ⟨⟨rfl, rfl, rfl, by simp [setBlock], fun k _ hne => hh k hne⟩, by simp [setBlock]⟩
  · exact ⟨⟨rfl, rfl, rfl, by simp [setBlock], fun k _ hne => hh k hne⟩, by simp [setBlock]⟩
theorem Ranging.next (h : Ranging w b r m xs) (ty : TypeId) :
    (xs.Perm (m.map (·.1)) ∧ (Instr.next (.pointer (some ⟨r, 0, none⟩)) false ty).run P w = .ok (.tuple #[.bool false]) w) ∨
    ∃ n v w', mget m n = some v ∧ n ∉ xs ∧ (Instr.next (.pointer (some ⟨r, 0, none⟩)) false ty).run P w = .ok (.tuple #[.bool true, .int .i64 n, v]) w' ∧ Ranging w' b r m (xs ++ [n]) ∧ Turned (fun k => k = r) w w' ∧ w'.heap.size = w.heap.size ∧ (Instr.entry (.pointer (some ⟨r, 0, none⟩))).run P w' = .ok (.tuple #[.int .i64 n, v]) w' := by
  have hne := h.ne
  have hrlt := h.lt
  obtain ⟨⟨es, clock, since, seen, c0, h1, h2, h3, h4, h5, h6, h7, h8⟩, hk, hn, hs⟩ := h
  rcases run_next_at (P := P) w ty r b since c0 seen es clock h6 h1 h4 h7 with ⟨h0, hrun⟩ | ⟨e, he, w1, hal, hrun⟩
  · left
    refine ⟨(List.perm_ext_iff_of_nodup hn hk).2 fun n => ⟨hs n, fun hn' => ?_⟩, hrun⟩
    obtain ⟨x, hx, rfl⟩ := List.mem_map.1 hn'
    obtain ⟨e, he, hek⟩ := entries_has h2 hx
    have hsn := all_seen es seen h0 e he
    obtain ⟨n', h9, h10⟩ := (h8 e he).1 hsn
    rw [hek] at h10
    injection h10 with _ h10
    rw [h10]; exact h9
  · right
    obtain ⟨hem, hes⟩ := mem_left he
    obtain ⟨n, v, hkey, hval, hnm⟩ := entries_mem h2 hem
    have hnx : n ∉ xs := fun hx => by
      have := (h8 e hem).2 ⟨n, hx, hkey⟩
      rw [hes] at this; cases this
    have hr1 : w1.heap[r]? = some (.mapIter (some b) since seen c0) := by rcases hal with rfl | rfl <;> exact h6
    have hb1 : w1.heap[b]? = some (.map es clock) := by rcases hal with rfl | rfl <;> exact h1
    have hset := MapKept.heap_set (o' := .mapIter (some b) since (seen.push e.born) clock) hr1
    have hb' : (setBlock w1 r (.mapIter (some b) since (seen.push e.born) clock)).heap[b]? = some (.map es clock) := (hset.2 b (fun e1 => hne e1.symm)).trans hb1
    obtain ⟨ht, hsz⟩ := turned_block (o := .mapIter (some b) since (seen.push e.born) clock) (r := r) hal
    refine ⟨n, v, _, mget_of_mem hk hnm, hnx, by rw [← hkey, ← hval]; exact hrun, ⟨⟨es, clock, since, seen.push e.born, clock, hb', h2, h3, h4, h5, hset.1, h5, fun x hx => ?_⟩, hk, ?_, ?_⟩, ht, hsz, ?_⟩
    · rw [contains_push, Bool.or_eq_true, h8 x hx]
      constructor
      · rintro (⟨k, hk, he⟩ | hb)
        · exact ⟨k, List.mem_append_left _ hk, he⟩
        · have : x = e := born_inj h3 hx hem (by simpa using hb)
          subst this
          exact ⟨n, by simp, hkey⟩
      · rintro ⟨k, hk', he'⟩
        rcases List.mem_append.1 hk' with hk' | hk'
        · exact .inl ⟨k, hk', he'⟩
        · right
          simp at hk'; subst hk'
          obtain ⟨n2, v2, hx1, hx2, hx3⟩ := entries_mem h2 hx
          have : x.key = e.key := he'.trans hkey.symm
          have hent : ∀ {l : List MapEntry} {m : List (Int × Value)}, l.map (fun e => (e.key, e.val)) = m.map (fun x => (Value.int .i64 x.1, x.2)) → (m.map (·.1)).Nodup → ∀ {x y : MapEntry}, x ∈ l → y ∈ l → x.key = y.key → x = y := by
            intro l
            induction l with
            | nil => intro _ _ _ _ _ h; cases h
            | cons a l ih =>
              intro m hm hn x y hx hy e
              cases m with
              | nil => cases hm
              | cons z m =>
                simp only [List.map_cons, List.cons.injEq, Prod.mk.injEq] at hm
                simp only [List.map_cons, List.nodup_cons] at hn
                have hout : ∀ y ∈ l, y.key ≠ a.key := by
                  intro y hy e
                  have h1 : (y.key, y.val) ∈ l.map (fun e => (e.key, e.val)) := List.mem_map.2 ⟨y, hy, rfl⟩
                  rw [hm.2] at h1
                  obtain ⟨q, hq, h2⟩ := List.mem_map.1 h1
                  injection h2 with h2 _
                  rw [e, hm.1.1] at h2
                  injection h2 with _ h2
                  exact hn.1 (List.mem_map.2 ⟨q, hq, h2⟩)
                rcases List.mem_cons.1 hx with hx1 | hx1 <;> rcases List.mem_cons.1 hy with hy1 | hy1
                · rw [hx1, hy1]
                · exact absurd (by rw [← e, hx1]) (hout y hy1)
                · exact absurd (by rw [e, hy1]) (hout x hx1)
                · exact ih hm.2 hn.2 hx1 hy1 e
          rw [hent h2 hk hx hem this]
          simp
    · rw [List.nodup_append]
      refine ⟨hn, by simp, fun a ha c hc => ?_⟩
      simp at hc; subst hc
      exact fun e => hnx (e ▸ ha)
    · intro k hk'
      rcases List.mem_append.1 hk' with hk' | hk'
      · exact hs k hk'
      · simp at hk'; subst hk'
        exact List.mem_map.2 ⟨_, hnm, rfl⟩
    · rw [← hkey, ← hval]
      exact run_entry_at _ r b since seen es clock e hset.1 hb' hem h3
variable {ops : Array Oper} {rest : List Oper} {o : Oper} {a : Act} {Q : Exit → Act → World → Prop}
theorem wpList_range_int (hg : o.guard = none) (mo : Operand) (T : TypeId) (hop : o.op = Op.range T mo) {K E : TypeId} (hT : P.underlying T = some (.map K E)) (hm : a.eval mo = .map (some b)) (h : IMap w b m)
    (next : ∀ w', Ranging w' b w.heap.size m [] → Below w.heap.size w w' → w'.heap.size = w.heap.size + 1 → wpList P ops Q rest (a.put o.dst (.pointer (some ⟨w.heap.size, 0, none⟩))) w') : wpList P ops Q (o :: rest) a w := by
  obtain ⟨w', hrun, h1, h2, h3⟩ := h.range (P := P) hT
  refine wpList_value hg (w' := w') ?_ (next w' h1 h2 h3)
  simp [execOp, hop, hm, hrun, Result.andThen]
theorem wpList_next_int (hg : o.guard = none) (it : Operand) (hop : o.op = Op.next it false) (hit : a.eval it = .pointer (some ⟨r, 0, none⟩)) (h : Ranging w b r m xs)
    (done : xs.Perm (m.map (·.1)) → wpList P ops Q rest (a.put o.dst (.tuple #[.bool false])) w)
    (more : ∀ n v w', mget m n = some v → n ∉ xs → Ranging w' b r m (xs ++ [n]) → Turned (fun k => k = r) w w' → w'.heap.size = w.heap.size → (Instr.entry (.pointer (some ⟨r, 0, none⟩))).run P w' = .ok (.tuple #[.int .i64 n, v]) w' → wpList P ops Q rest (a.put o.dst (.tuple #[.bool true, .int .i64 n, v])) w') :
    wpList P ops Q (o :: rest) a w := by
  rcases h.next (P := P) o.type with ⟨h1, hrun⟩ | ⟨n, v, w', h1, h2, hrun, h3, h4, h5, h6⟩
  · refine wpList_value hg (w' := w) ?_ (done h1)
    simp [execOp, hop, hit, hrun, Result.andThen]
  · refine wpList_value hg (w' := w') ?_ (more n v w' h1 h2 h3 h4 h5 h6)
    simp [execOp, hop, hit, hrun, Result.andThen]
end
end Go.Proofs.Ytliakkpmmmgmhaa
/- Which pages are used. -/
namespace Go.Proofs.Ytliakkpmmmgmhaa
open Go.RowKit

theorem infoI : (Try.prog.info? 3).map (fun i => (i.zero, i.size, i.bytes)) = some (some (.int .i64 0), 1, 8) := by kernel_rfl
def ints (l : List Int) : List Value := l.map (Value.int .i64)
/-- The pages below k that are used. -/
def usedI (used : List Bool) (k : Nat) : List Int := (List.range k).filterMap (fun i : Nat => if used[i]? = some true then some (i : Int) else none)
theorem usedI_yes {used : List Bool} {k : Nat} (h : used[k]? = some true) : usedI used (k + 1) = usedI used k ++ [(k : Int)] := by
  unfold usedI
  rw [List.range_succ, List.filterMap_append]
  simp [h]
theorem usedI_no {used : List Bool} {k : Nat} (h : used[k]? = some false) : usedI used (k + 1) = usedI used k := by
  unfold usedI
  rw [List.range_succ, List.filterMap_append]
  simp [h]
theorem usedI_le (used : List Bool) (k : Nat) : (usedI used k).length ≤ k := by
  unfold usedI
  have := List.length_filterMap_le (fun i : Nat => if used[i]? = some true then some (i : Int) else none) (List.range k)
  simpa using this
def UsedDone (w : World) (l : List Int) (e : Ending) (w' : World) : Prop :=
  ∃ A c, e = .returned (.slice A l.length c) ∧ w'.ownsRow w.heap.size 3 1 (.slice A l.length c) l.length (ints l) ∧ Below w.heap.size w w'
def UsedRel (w : World) (used : List Bool) (ul : Nat) (v i : Value) (wr : World) : Prop :=
  ∃ k : Nat, k ≤ ul ∧ i = .int .i64 (k : Int) ∧ Hid (wr.ownsRow w.heap.size 3 1 v (usedI used k).length (ints (usedI used k))) ∧ Hid (Below w.heap.size w wr)
set_option linter.unusedSimpArgs false in
set_option maxRecDepth 100000 in
set_option maxHeartbeats 4000000 in
theorem used_c (G : PgG) (w : World) (h : PgRep w G) : Calls Try.prog 24 #[.pointer (some ⟨G.P, 0, none⟩)] w (UsedDone w (usedI G.nowM.used (G.n + 1))) := by
  have hbr := pbroken_c G w h
  have hnow := now_c G w h
  have hlen := h.nowLen
  have hn16 := h.n1600
  obtain ⟨M, hM⟩ : ∃ M, M = G.nowM := ⟨_, rfl⟩
  have HB : Hid (BoolsAt w M.ub M.used.length M.uc M.used) := by rw [hM]; exact h.nowRep.used
  rw [← hM] at hnow hlen ⊢
  obtain ⟨ul, hul⟩ : ∃ ul, ul = M.used.length := ⟨_, rfl⟩
  have hul2 : ul ≤ 2000 := by omega
  have hul3 : (ul : Int) ≤ 2000 := by omega
  unfold NowDone at hnow
  rw [← hul] at hnow
  have hfd : ∀ (W : World) (a b : Value), (Instr.field 86 (.agg #[a, b]) 0).run Try.prog W = .ok a W := fun _ _ _ => by kernel_rfl
  have HL := Lib.hid (And.intro hlen hul)
  have HI := Lib.hid (info_parts infoI)
  clear hM hlen hn16 hul h
  go_enter Try.func24, Try.ntmps24
  go_wp2_with fail
  refine hbr.mono ?_
  rintro e wx ⟨rfl, rfl⟩
  clear hbr
  go_wp2_with fail
  refine hnow.mono ?_
  clear hnow
  rintro e w2 ⟨rfl, hb2⟩
  have H2 := Lib.hid hb2
  clear hb2
  go_wp2_with fail
  go_loopw [3, 12] (fun v i wr => UsedRel w M.used ul v i wr) (fun _ i _ => ul - (intOf i).toNat)
  case atStart => exact ⟨0, Nat.zero_le _, rfl, Lib.hid (World.ownsRow_nil _ _ _ _), H2⟩
  case round =>
    obtain ⟨k, hk, rfl, HO, HW⟩ := hrel
    obtain ⟨A, c, rfl, hfresh⟩ := own_form HO.out
    obtain ⟨u, hu⟩ : ∃ u, u = (usedI M.used k).length := ⟨_, rfl⟩
    have hule := usedI_le M.used k
    have HF := Lib.hid (And.intro hfresh (And.intro hu hule))
    rw [← hu] at HO ⊢
    clear hfresh hule hu
    by_cases hkl : k < ul
    · obtain ⟨b, hb⟩ : ∃ b, M.used[k]? = some b := ⟨_, List.getElem?_eq_getElem (by have := HL.out.2; omega)⟩
      have cb : wr.cell? ⟨M.ub, k, none⟩ = some (.bool b) := (HB.out.below HW.out).cell hb
      have hk1 : (k : Int) < (ul : Int) := by omega
      have hk0 : (0 : Int) ≤ (k : Int) := by omega
      have hu2 : u ≤ 2000 := by have := HF.out.2.1; have := HF.out.2.2; omega
      cases b with
      | true =>
        have HE := Lib.hid (usedI_yes hb)
        clear hb hkl
        go_wp2_with (
          (refine at_dst 21 rfl ?_)
          obtain ⟨i0, hi, hz, hs, hb⟩ := HI.out
          (refine wpList_append_rd rfl (.tmp 18) (.tmp 20) 22 rfl Try.underlying22 hi hz hs hb rfl (by decide) w.heap.size (.slice A u c) rfl (HO.out.alloc _) rfl
            (Rd.of_blk (n := 1) (c := 1) (sz := 1) (cs := #[.int .i64 (k : Int)]) (by simpa using Blk.new wr 3 #[.int .i64 (k : Int)]) (Nat.le_refl _) (by simp [maxLen]) (by simp)) (by simp [Value.oneCell']) (by simp only [maxLen]; omega) (by omega) (by have := HW.out.size; simp; omega) ?_)
          intro v3 w3 hown3 hgr3 hat3
          have HO3 := Lib.hid hown3
          have HG3 := Lib.hid (And.intro hgr3 hat3)
          clear hown3 hgr3 hat3 hi hz hs hb)
        go_roundw
        case rel =>
          refine ⟨k + 1, by omega, by go_num, ?_, ?_⟩
          · show World.ownsRow _ _ _ _ _ _ _
            rw [HE.out, List.length_append, ← HF.out.2.1]
            unfold ints
            rw [List.map_append]
            exact HO3.out
          · exact (HW.out.alloc HW.out.size _).grown HG3.out.1 (by have := HW.out.size; simp; omega) (fun g e => HF.out.1 g (by rw [← HF.out.2.1]; exact e))
        case measure => simp [intOf]; omega
      | false =>
        have HE := Lib.hid (usedI_no hb)
        clear hb hkl
        go_wp2_with fail
        go_roundw
        case rel =>
          refine ⟨k + 1, by omega, by go_num, ?_, HW.out⟩
          show World.ownsRow _ _ _ _ _ _ _
          rw [HE.out, ← HF.out.2.1]
          exact HO.out
        case measure => simp [intOf]; omega
    · obtain rfl : k = ul := by omega
      go_wp2_with fail
      go_ret
      have hul := HL.out.2
      refine ⟨A, c, by rw [← HL.out.1, ← hul, ← HF.out.2.1]; rfl, by rw [← HL.out.1, ← hul, ← HF.out.2.1]; exact HO.out, HW.out⟩
end Go.Proofs.Ytliakkpmmmgmhaa
/- A slice of whole numbers of one's own, sorted by the library. -/
namespace Go.Proofs.Ytliakkpmmmgmhaa
open Go.RowKit Go.Sort

def sortI (l : List Int) : List Int := l.mergeSort fun x y => decide (x ≤ y)
theorem sortI_perm (l : List Int) : (sortI l).Perm l := List.mergeSort_perm ..
theorem sortI_len (l : List Int) : (sortI l).length = l.length := (sortI_perm l).length_eq
theorem sortI_le (l : List Int) : (sortI l).Pairwise (· ≤ ·) := by
  have := List.pairwise_mergeSort (le := fun x y : Int => decide (x ≤ y)) (fun a b c h1 h2 => by simp at *; omega) (fun a b => by simp; omega) l
  exact this.imp (by intro a b h; simpa using h)
def SortDone (base : Nat) (w : World) (A : Option Addr) (n c : Nat) (l : List Int) (e : Ending) (w' : World) : Prop :=
  e = .returned (.tuple #[]) ∧ w'.ownsRow base 3 1 (.slice A n c) n (ints (sortI l)) ∧ w.grownBy w' (Value.slice A n c).ownBlock
theorem sort_c (base : Nat) (A : Option Addr) (n c : Nat) (l : List Int) (w : World) (h : w.ownsRow base 3 1 (.slice A n c) n (ints l)) (hn : n ≤ 1000000) :
    Calls Try.prog 44 #[.slice A n c] w (SortDone base w A n c l) := by
  have hl : l.length = n := by have := h.1; unfold ints at this; simpa using this
  rcases h.2 with ⟨he, h0⟩ | ⟨g, cap, cur, hv, hb, hg, hnc, hcm, hcs, htk⟩
  · injection he with e1 e2 e3
    subst e1; subst e3; subst h0
    obtain rfl : l = [] := List.eq_nil_of_length_eq_zero hl
    refine (Any.slices_Sort_int_none Try.lays189 none 0 w).mono ?_
    rintro e w' ⟨rfl, rfl⟩
    exact ⟨rfl, by simpa [sortI] using h, World.grownBy.refl _ _⟩
  · injection hv with e1 _ e3
    subst e1; subst e3; subst hl
    have hH : Holds (Value.int .i64) w g 0 l.toArray := holds_of_blockI hg (by rw [Nat.mul_one] at htk; exact htk)
    refine (Any.slices_Sort_int Try.lays189 g 0 c l w hH (Array.getElem?_eq_some_iff.1 hg).1 (by omega)).mono ?_
    rintro e w' ⟨rfl, n, os, rfl⟩
    refine ⟨rfl, ?_, grownBy_sortedI _⟩
    have := ownsRow_sortedI (w := w) (base := base) (n := n) (os := os) (ss := l) (ts := sortI l) (sortI_len l) hb hg hnc hcm hcs
    exact this
end Go.Proofs.Ytliakkpmmmgmhaa
/- The keys of a map of pages, collected. -/
namespace Go.Proofs.Ytliakkpmmmgmhaa
open Go.RowKit

def lenV : Value → Nat
  | .slice _ n _ => n
  | _ => 0
theorem sortI_of_perm {l l' : List Int} (h : l.Perm l') : sortI l = sortI l' :=
  List.Perm.eq_of_pairwise (le := fun a b : Int => a ≤ b) (fun a b _ _ h1 h2 => by omega) (sortI_le l) (sortI_le l') (((sortI_perm l).trans h).trans (sortI_perm l').symm)
theorem own_turned {S : Nat → Prop} {w w' : World} {base sz k : Nat} {t : TypeId} {v : Value} {ys : List Value} (h : w.ownsRow base t sz v k ys) (ht : Turned S w w') (hS : ∀ g, v.ownBlock = some g → ¬ S g) : w'.ownsRow base t sz v k ys := by
  refine ⟨h.1, ?_⟩
  rcases h.2 with h0 | ⟨g, cap, cur, hv, hb, hg, hrest⟩
  · exact .inl h0
  · refine .inr ⟨g, cap, cur, hv, hb, ?_, hrest⟩
    exact (ht.block g (Array.getElem?_eq_some_iff.1 hg).1 (hS g (by rw [hv]; rfl))).trans hg
theorem nodup_bound {l : List Int} {n : Nat} (h : l.Nodup) (hb : ∀ k ∈ l, 0 ≤ k ∧ k ≤ n) : l.length ≤ n + 1 := by
  have := List.Nodup.length_le_of_subset (l₂ := (List.range (n + 1)).map (fun i : Nat => (i : Int))) h (fun k hk => by
    obtain ⟨h1, h2⟩ := hb k hk
    exact List.mem_map.2 ⟨k.toNat, List.mem_range.2 (by omega), by omega⟩)
  simpa using this
theorem PMap.few {w : World} {b : Nat} {ks : List Int} {f : Int → Option (List UInt8)} (h : PMap w b ks f) {n : Nat} (hk : ∀ k l, f k = some l → 0 ≤ k ∧ k ≤ n ∧ l.length = 512) : ks.length ≤ n + 1 :=
  nodup_bound h.nodup (fun k hm => by
    have := (h.mem k).1 hm
    obtain ⟨l, hl⟩ := Option.isSome_iff_exists.1 this
    have := hk k l hl
    exact ⟨this.1, this.2.1⟩)
/-- The keys that a range has come past, collected. -/
def CollRel (W base : Nat) (w0 : World) (b r : Nat) (vm : List (Int × Value)) (v : Value) (wr : World) : Prop :=
  ∃ xs : List Int, Hid (wr.ownsRow base 3 1 v xs.length (ints xs)) ∧ Hid (Ranging wr b r vm xs) ∧ Hid (Below W w0 wr) ∧ Hid (base ≤ wr.heap.size) ∧ lenV v = xs.length
theorem coll_round {W base : Nat} {w0 wr w2 w3 : World} {b r : Nat} {vm : List (Int × Value)} {xs : List Int} {A : Option Addr} {c u : Nat} {n : Int} {v3 : Value} {o : Obj}
    (hu : u = xs.length) (hW : W = w0.heap.size) (hr : W ≤ r) (hrb : r < base) (hbb : b < base) (HW : Below W w0 wr) (HB : base ≤ wr.heap.size) (hR2 : Ranging w2 b r vm (xs ++ [n])) (ht2 : Turned (fun k => k = r) wr w2) (hs2 : w2.heap.size = wr.heap.size)
    (hfresh : ∀ g, (Value.slice A xs.length c).ownBlock = some g → base ≤ g) (hown : w3.ownsRow base 3 1 v3 (u + 1) (ints xs ++ List.take (1 * 1) #[Value.int .i64 n].toList)) (hgr : (w2.alloc o).grownBy w3 (Value.slice A u c).ownBlock) :
    CollRel W base w0 b r vm v3 w3 ∧ vm.length - lenV v3 < vm.length - lenV (Value.slice A u c) := by
  subst hu
  have e1 : ints xs ++ List.take (1 * 1) #[Value.int .i64 n].toList = ints (xs ++ [n]) := by simp [ints]
  rw [e1] at hown
  obtain ⟨A3, c3, rfl, _⟩ := own_form hown
  have hle := hR2.le
  simp only [List.length_append, List.length_cons, List.length_nil] at hle
  have hbr : Below W w0 w2 := ⟨ht2.os.trans HW.os, ht2.tape.trans HW.tape, ht2.output.trans HW.output, by rw [hs2]; exact HW.size, fun k hk => (ht2.block k (by have := HW.size; omega) (by omega)).trans (HW.block k hk)⟩
  have hg3 : (w2.alloc o).heap.size = w2.heap.size + 1 := by simp
  have hTg : Turned (fun k => (Value.slice A xs.length c).ownBlock = some k) w2 w3 := ((Turned.refl _ w2).alloc o).grown hgr (fun k e _ => e)
  refine ⟨⟨xs ++ [n], by simpa using Lib.hid hown, Lib.hid (hR2.turned hTg (fun e => by have := hfresh _ e; omega) (fun e => by have := hfresh _ e; omega)), Lib.hid ?_, Lib.hid (by have := hTg.size; omega), by simp [lenV]⟩, by simp only [lenV]; omega⟩
  refine ⟨hTg.os.trans hbr.os, hTg.tape.trans hbr.tape, hTg.output.trans hbr.output, Nat.le_trans hbr.size hTg.size, fun k hk => ?_⟩
  refine (hTg.block k (by have := hbr.size; omega) (fun e => ?_)).trans (hbr.block k hk)
  have := hfresh _ e
  omega
/-- What a range over a map of pages begins with. -/
theorem PMap.ranged {w : World} {b : Nat} {ks : List Int} {f : Int → Option (List UInt8)} (h : PMap w b ks f) :
    ∃ vm w1, (Instr.range 82 (.map (some b))).run Try.prog w = .ok (.pointer (some ⟨w.heap.size, 0, none⟩)) w1 ∧ ks = vm.map (·.1) ∧ Ranging w1 b w.heap.size vm [] ∧ Below w.heap.size w w1 ∧ w1.heap.size = w.heap.size + 1 := by
  obtain ⟨vm, hvm, hks⟩ := h.imap
  obtain ⟨w1, hrun, hR1, hb1, hs1⟩ := hvm.range (P := Try.prog) Try.underlying82
  exact ⟨vm, w1, hrun, hks, hR1, hb1, hs1⟩
/-- The page of a map, as a call's argument. -/
theorem PMap.at_ {w : World} {b : Nat} {ks : List Int} {f : Int → Option (List UInt8)} (h : PMap w b ks f) {n : Int} {l : List UInt8} (hf : f n = some l) :
    ∃ A c, (Instr.lookup 82 (.map (some b)) (.int .i64 n) false).run Try.prog w = .ok (.slice A 512 c) w ∧ Bs 5 w A 512 c l := by
  obtain ⟨vm, A, c, hm, hg, hB⟩ := h.yes hf
  exact ⟨A, c, hm.lookup1_yes Try.underlying82 Try.underlying3 hg, hB⟩
end Go.Proofs.Ytliakkpmmmgmhaa
/- The pages that stand in the journal alone are written to their places. -/
namespace Go.Proofs.Ytliakkpmmmgmhaa
open Go.RowKit

/-- The blocks, pages laid over them. -/
def layF (N : List (List UInt8)) (B : Nat) (f : Int → Option (List UInt8)) (ks : List Int) : List (List UInt8) := ks.foldl (fun N k => N.set (1 + B + k.toNat) ((f k).getD [])) N
theorem layF_snoc (N : List (List UInt8)) (B : Nat) (f : Int → Option (List UInt8)) (ks : List Int) (k : Int) : layF N B f (ks ++ [k]) = (layF N B f ks).set (1 + B + k.toNat) ((f k).getD []) := by
  unfold layF; rw [List.foldl_append]; rfl
theorem layF_len (N : List (List UInt8)) (B : Nat) (f : Int → Option (List UInt8)) (ks : List Int) : (layF N B f ks).length = N.length := by
  unfold layF
  induction ks generalizing N with
  | nil => rfl
  | cons k ks ih => rw [List.foldl_cons, ih, List.length_set]
theorem layF_out {N : List (List UInt8)} {B : Nat} {f : Int → Option (List UInt8)} {ks : List Int} {i : Nat} (h : ∀ k ∈ ks, i ≠ 1 + B + k.toNat) : (layF N B f ks)[i]? = N[i]? := by
  unfold layF
  induction ks generalizing N with
  | nil => rfl
  | cons k ks ih =>
    rw [List.foldl_cons, ih (fun k hk => h k (List.mem_cons_of_mem _ hk)), List.getElem?_set_ne (fun e => h k (List.mem_cons_self ..) e.symm)]
theorem layF_in {N : List (List UInt8)} {B : Nat} {f : Int → Option (List UInt8)} {ks : List Int} {q : Nat} {l : List UInt8} (hk : (q : Int) ∈ ks) (h0 : ∀ k ∈ ks, 0 ≤ k) (hl : f q = some l) (hlen : 1 + B + q < N.length) : (layF N B f ks)[1 + B + q]? = some l := by
  unfold layF
  induction ks generalizing N with
  | nil => cases hk
  | cons k ks ih =>
    rw [List.foldl_cons]
    by_cases hm : (q : Int) ∈ ks
    · exact ih hm (fun k hk => h0 k (List.mem_cons_of_mem _ hk)) (by rw [List.length_set]; exact hlen)
    · obtain rfl : (q : Int) = k := by
        rcases List.mem_cons.1 hk with e | e
        · exact e
        · exact absurd e hm
      have := layF_out (N := N.set (1 + B + (q : Int).toNat) ((f q).getD [])) (B := B) (f := f) (ks := ks) (i := 1 + B + q) (fun k hk e => hm (by have := h0 k (List.mem_cons_of_mem _ hk); rw [show (q : Int) = k by omega]; exact hk))
      unfold layF at this
      rw [this, Int.toNat_natCast, List.getElem?_set_self hlen, hl]
      rfl
theorem logDisk_layF {N : List (List UInt8)} {J : LogG} (h : LogDisk N J) (hJ : J.data.length ≤ J.room) (h5 : J.room % 512 = 0) {B : Nat} (hb : J.frm + 2 + J.room / 512 ≤ 1 + B) (f : Int → Option (List UInt8)) (ks : List Int) : LogDisk (layF N B f ks) J := by
  have hout : ∀ i, i < 1 + B → (layF N B f ks)[i]? = N[i]? := fun i hi => layF_out (fun k _ => by omega)
  have hm : J.seq % 2 < 2 := Nat.mod_lt _ (by decide)
  have hm1 : (J.seq + 1) % 2 < 2 := Nat.mod_lt _ (by decide)
  obtain ⟨z, hz, hzl⟩ := h.head
  refine ⟨h.pos, ⟨z, by rw [hout _ (by omega)]; exact hz, hzl⟩, fun b hb' => h.other b (by rw [hout _ (by omega)] at hb'; exact hb'), fun k hk => ?_⟩
  rw [hout _ (by omega)]
  exact h.data k hk
def Settled (w : World) (G : PgG) (e : Ending) (w' : World) : Prop :=
  e = .returned (.int .i64 0) ∧ ∃ D' J', PgRep w' { G with D := D', J := J', ks := [], f := noF } ∧ D'.d = G.D.d ∧ D'.bb = G.D.bb ∧ D'.L.length = G.D.L.length ∧ J'.b = G.J.b ∧ J'.seq = G.J.seq + 1 ∧ J'.data = [] ∧ (∀ k, k ≤ G.n → pageOf D' G.B noF k = pageOf G.D G.B G.f k) ∧ D'.now[0]? = G.D.now[0]? ∧ Turned (fun g => g = G.D.d ∨ g = G.D.bb ∨ g = G.J.b ∨ g = G.ob) w w'
theorem settle_fin {w w3 w6 : World} {G : PgG} (h0 : PgRep w G) (hb : Below w.heap.size w w3) {D' : DiskG} {J' : LogG} (hD : DiskRep w6 D') (hJ : LogRep w6 G.D.d J') (hd : D'.d = G.D.d) (hbb : D'.bb = G.D.bb) (hJb : J'.b = G.J.b) (hfrm : J'.frm = G.J.frm) (hroom : J'.room = G.J.room) (hlen : D'.L.length = G.D.L.length) (hlive : D'.Live) (hsync : D'.sync) (hon : LogDisk D'.now J')
    (hseq : J'.seq = G.J.seq + 1) (hdata : J'.data = []) (hnow : ∀ i, i < 1 ∨ 1 + G.B ≤ i → D'.now[i]? = (layF G.D.now G.B G.f (sortI G.ks))[i]?) (hT : Turned (fun g => g = G.D.d ∨ g = G.D.bb ∨ g = G.J.b ∨ g = G.ob) w3 w6) (hm : IMap w6 G.ob []) : Settled w G (.returned (.int .i64 0)) w6 := by
  have h := h0.below hb
  obtain ⟨om, hom, _⟩ := h.over.imap
  obtain ⟨Cu, hCu⟩ := h.mrep.ub_blk
  have nb : ∀ {g : Nat} {t : TypeId} {cs : Array Value}, Blk w3 g t cs → t ≠ 81 → t ≠ 116 → t ≠ 126 → ¬ (g = G.D.d ∨ g = G.D.bb ∨ g = G.J.b ∨ g = G.ob) := by
    rintro g t cs hg h1 h2 h3 (e | e | e | e)
    · exact hg.ne_ h.disk.bd h1 e
    · exact hg.ne_ h.disk.bb h2 e
    · exact hg.ne_ h.log.blk h3 e
    · exact hom.ne_blk hg e.symm
  have nm : ∀ {g : Nat} {vm : List (Int × Value)}, IMap w3 g vm → g ≠ G.ob → ¬ (g = G.D.d ∨ g = G.D.bb ∨ g = G.J.b ∨ g = G.ob) := by
    rintro g vm hg h1 (e | e | e | e)
    · exact hg.ne_blk h.disk.bd e
    · exact hg.ne_blk h.disk.bb e
    · exact hg.ne_blk h.log.blk e
    · exact h1 e
  have h8 : ∀ g, (g = G.D.d ∨ g = G.D.bb ∨ g = G.J.b ∨ g = G.ob) → Not8 5 w3 g := by
    rintro g (e | e | e | e)
    · subst e; exact h.disk.bd.not8 (by decide)
    · subst e; exact h.disk.bb.not8 (by decide)
    · subst e; exact h.log.blk.not8 (by decide)
    · subst e; exact h.over.not8
  have hmem : ∀ k, k ∈ sortI G.ks ↔ (G.f k).isSome = true := fun k => (sortI_perm G.ks).mem_iff.trans (h.over.mem k)
  have hks0 : ∀ k ∈ sortI G.ks, 0 ≤ k := fun k hk => by
    obtain ⟨l, hl⟩ := Option.isSome_iff_exists.1 ((hmem k).1 hk)
    exact (h.keys k l hl).1
  have hout : ∀ q : Nat, G.f q = none → (layF G.D.now G.B G.f (sortI G.ks))[1 + G.B + q]? = G.D.now[1 + G.B + q]? := fun q hq => layF_out (fun k hk e => by
    have := hks0 k hk
    obtain rfl : k = (q : Int) := by omega
    have := (hmem _).1 hk
    rw [hq] at this; cases this)
  refine ⟨rfl, D', J', ?_, hd, hbb, hlen, hJb, hseq, hdata, fun k hk => ?_, ?_, (Turned.of_below (S := fun g => g = G.D.d ∨ g = G.D.bb ∨ g = G.J.b ∨ g = G.ob) hb).trans hT (fun _ _ e => e)⟩
  · have hh : PgG.head { G with D := D', J := J', ks := [], f := noF } = G.head := by unfold PgG.head; rw [hd, hJb]
    have hframes : ∀ fr ∈ G.Q.L, 0 ≤ fr.page → fr.page ≤ G.n ∧ noF fr.page = none ∧ D'.now[1 + G.B + fr.page.toNat]? = some fr.l := by
      intro fr hfr h1
      obtain ⟨a, b, c⟩ := h.frames fr hfr h1
      refine ⟨a, rfl, ?_⟩
      rw [hnow _ (.inr (by omega)), hout _ (by rw [show ((fr.page.toNat : Nat) : Int) = fr.page by omega]; exact b)]
      exact c
    have htx : ∀ T, G.tx = some T → TxRep w6 T := by
      intro T hT'
      have ht := h.tx T hT'
      obtain ⟨Ct, hCt⟩ := ht.mrep.ub_blk
      obtain ⟨tm, htm, _⟩ := ht.map.imap
      exact ⟨ht.blk.turned hT (nb ht.blk (by decide) (by decide) (by decide)), ht.mrep.turned hT (nb hCt (by decide) (by decide) (by decide)) h8, ht.map.turned hT (nm htm (h.txul T hT').2.2.1) h8⟩
    exact { h with blk := (by rw [hh]; exact h.blk.turned hT (nb h.blk (by decide) (by decide) (by decide))), disk := hD, log := (by show LogRep w6 D'.d J'; rw [hd]; exact hJ), pool := h.pool.turned hT (nb h.pool.bp (by decide) (by decide) (by decide)) (nb h.pool.bf (by decide) (by decide) (by decide)) (nm h.pool.bm (fun e => h.ne1 e.symm)) h8, mrep := h.mrep.turned hT (nb hCu (by decide) (by decide) (by decide)) h8, over := ⟨[], hm, rfl, fun n => .inl ⟨rfl, rfl⟩⟩, live := hlive, sync := hsync, on := hon, jfrm := hfrm.trans h.jfrm, jroom := hroom.trans h.jroom, fit := (by show _ ≤ D'.L.length; rw [hlen]; exact h.fit), keys := (fun _ _ e => nomatch e), frames := hframes, tx := htx }
  · unfold pageOf
    show (D'.now[1 + G.B + k]?).getD [] = _
    rw [hnow _ (.inr (by omega))]
    cases hk' : G.f k with
    | none => rw [hout k hk']
    | some l =>
      rw [layF_in ((hmem k).2 (by rw [hk']; rfl)) hks0 hk' (by rw [G.D.now_len]; have := h.fit; omega)]
      rfl
  · rw [hnow 0 (.inl (by omega)), layF_out (fun k _ => by omega)]
def SetRel (w1 : World) (D : DiskG) (B : Nat) (f : Int → Option (List UInt8)) (zs : List Int) (i : Value) (wr : World) : Prop :=
  ∃ (k : Nat) (Dk : DiskG), k ≤ zs.length ∧ i = .int .i64 (k : Int) ∧ Hid (DStep w1 wr D Dk) ∧ Hid (Dk.now = layF D.now B f (zs.take k)) ∧ Hid (Dk.W.length = k)
set_option linter.unusedSimpArgs false in
set_option maxRecDepth 100000 in
set_option maxHeartbeats 8000000 in
theorem settle_c (G : PgG) (w : World) (h : PgRep w G) (hs : G.J.seq < 4611686018427387904) : Calls Try.prog 49 #[.pointer (some ⟨G.P, 0, none⟩)] w (Settled w G) := by
  have c7 : w.cell? ⟨G.P, 7, none⟩ = some (.map (some G.ob)) := h.blk.cell 7
  obtain ⟨vm, w1, hrun, hks, hR1, hb1, hs1⟩ := h.over.ranged
  have hvl := h.over.few h.keys
  have hvl2 : (vm.length : Int) ≤ 1601 := by have := h.n1600; rw [hks, List.length_map] at hvl; omega
  have HH := Lib.hid (And.intro h (And.intro hs hks))
  obtain ⟨r, hr⟩ : ∃ r, r = w.heap.size := ⟨_, rfl⟩
  rw [← hr] at hrun hR1
  have hob := h.over.lt
  have H1 := Lib.hid (And.intro hR1 (And.intro hb1 (And.intro hs1 (And.intro hr hob))))
  have HI := Lib.hid (info_parts infoI)
  clear h hs hks hR1 hb1 hs1 hr hvl hob
  go_enter Try.func49, Try.ntmps49
  go_wp2_with fail
  go_loopw [3] (fun v wr => CollRel w.heap.size w1.heap.size w G.ob r vm v wr) (fun v _ => vm.length - lenV v)
  case atStart => exact ⟨[], Lib.hid (World.ownsRow_nil _ _ _ _), Lib.hid H1.out.1, Lib.hid H1.out.2.1, Lib.hid (Nat.le_refl _), rfl⟩
  case round =>
    obtain ⟨xs, HO, HR, HW, HB, hlv⟩ := hrel
    obtain ⟨A, c, rfl, hfresh⟩ := own_form HO.out
    have hx16 := HR.out.le
    obtain ⟨u, hu⟩ : ∃ u, u = xs.length := ⟨_, rfl⟩
    have hu2 : u ≤ 1601 := by omega
    rcases HR.out.next (P := Try.prog) 0 with ⟨hperm, hnx⟩ | ⟨n, v, w2, hget, hnin, hnx, hR2, ht2, hs2, hent⟩
    · have hso := sort_c w1.heap.size A xs.length c xs wr HO.out (by omega)
      rw [← hu] at hso ⊢
      have HX := Lib.hid (And.intro hperm (And.intro hlv (And.intro hfresh hu)))
      clear hperm hlv hfresh hx16 hvl2 hu
      go_wp2_with fail
      refine hso.mono ?_
      clear hso
      rintro e w3 ⟨rfl, hown3, hgr3⟩
      obtain ⟨hperm, _, hfresh, hu⟩ := HX.out
      have hzs : sortI xs = sortI G.ks := by rw [HH.out.2.2]; exact sortI_of_perm hperm
      rw [hzs] at hown3
      have hbel3 : Below w.heap.size w w3 := (HW.out).grown hgr3 (by have := HW.out.size; omega) (fun g e => by have := hfresh g (by rw [← hu]; exact e); have := H1.out.2.1.size; omega)
      have hzl : (sortI G.ks).length = u := by rw [← hzs, sortI_len, hu]
      have hR := HH.out.1.below hbel3
      have hc0 : w3.cell? ⟨G.P, 0, none⟩ = some (.pointer (some ⟨G.D.d, 0, none⟩)) := hR.blk.cell 0
      have hrd := Rd.of_own hown3
      have H3 := Lib.hid (And.intro hrd (And.intro hbel3 (And.intro hzl hR)))
      obtain ⟨zs, hz⟩ : ∃ zs, zs = sortI G.ks := ⟨_, rfl⟩
      rw [← hz] at H3
      have HZ := Lib.hid hz
      clear hperm hfresh hu hzs hown3 hgr3 hbel3 hzl hR hrd hz c7 hc0
      have hu3 : (u : Int) ≤ 1601 := by omega
      go_wp2_with fail
      go_loopw [26] (fun i wr => SetRel w3 G.D G.B G.f zs i wr) (fun i _ => u - (intOf i).toNat)
      case atStart => exact ⟨0, G.D, Nat.zero_le _, rfl, Lib.hid ⟨H3.out.2.2.2.disk, Turned.refl _ _, rfl, rfl, rfl, H3.out.2.2.2.live⟩, Lib.hid rfl, Lib.hid (by rw [H3.out.2.2.2.sync.1]; rfl)⟩
      case round =>
        obtain ⟨k, Dk, hk, rfl, HD, HN, HWl⟩ := hrel
        by_cases hku : k < u
        · obtain ⟨n, hn⟩ : ∃ n, zs[k]? = some n := ⟨_, List.getElem?_eq_getElem (by have := H3.out.2.2.1; omega)⟩
          have hR3 := H3.out.2.2.2
          have hnk : n ∈ G.ks := (sortI_perm G.ks).mem_iff.1 (by rw [← HZ.out]; exact List.mem_of_getElem? hn)
          obtain ⟨l, hl⟩ := Option.isSome_iff_exists.1 ((hR3.over.mem n).1 hnk)
          obtain ⟨hn0, hn1, hn2⟩ := hR3.keys n l hl
          obtain ⟨q, rfl⟩ : ∃ q : Nat, n = (q : Int) := ⟨n.toNat, by omega⟩
          have hb8 : ∀ {g : Nat} {t : TypeId} {cs : Array Value}, Blk w3 g t cs → t ≠ 81 → t ≠ 116 → ¬ (g = G.D.d ∨ g = G.D.bb) := fun hg h1 h2 e => e.elim (fun e => hg.ne_ hR3.disk.bd h1 e) (fun e => hg.ne_ hR3.disk.bb h2 e)
          have hPb := hR3.blk.turned HD.out.turned (hb8 hR3.blk (by decide) (by decide))
          have hOv := hR3.over.turned HD.out.turned (fun e => e.elim (hR3.over.ne_blk hR3.disk.bd) (hR3.over.ne_blk hR3.disk.bb)) (disk_not8 hR3.disk)
          obtain ⟨Al, cl, hlk, hBl⟩ := (hOv.below (Turned.below (Turned.refl _ wr).drew)).at_ hl
          have hz : (ints zs)[k]? = some (.int .i64 (q : Int)) := by unfold ints; rw [List.getElem?_map, hn]; rfl
          have hrw := H3.out.1.turned' HD.out.turned (fun g o e => by
            have hfr := HX.out.2.2.1 g (by rw [e]; rfl)
            have h1 := hR3.disk.bd.lt
            have h2 := H1.out.2.1.size
            have hd0 := HH.out.1.disk.bd.lt
            have hd1 := HH.out.1.disk.bb.lt
            omega)
          obtain ⟨g, o, rfl, hcell⟩ := hrw.cell hz
          obtain ⟨F, hF⟩ : ∃ F, F = 1 + G.B + q := ⟨_, rfl⟩
          have hwr := write_s Dk F Al 512 cl l wr.drew (HD.out.rep.below (Turned.below (Turned.refl _ wr).drew)) hBl HD.out.live (by rw [HD.out.len, hF]; have := hR3.fit; omega) rfl (by rw [HWl.out]; omega)
          rw [HD.out.d] at hwr
          have hS0 : wr.drew.cell? ⟨G.P, 0, none⟩ = some (.pointer (some ⟨G.D.d, 0, none⟩)) ∧ wr.drew.cell? ⟨G.P, 7, none⟩ = some (.map (some G.ob)) := ⟨hPb.cell 0, hPb.cell 7⟩
          have HQ := Lib.hid (And.intro hn (And.intro hl (And.intro hn1 (And.intro hF hPb))))
          have HWr := Lib.hid hwr
          have hk0 : (0 : Int) ≤ (k : Int) := by omega
          have hk1 : (k : Int) < (u : Int) := by omega
          clear hn hnk hl hn0 hn1 hn2 hb8 hPb hOv hBl hz hrw hF hwr hR3
          go_wp2_with fail
          go_region_held (fun W => W.cell? ⟨G.P, 0, none⟩ = some (.pointer (some ⟨G.D.d, 0, none⟩)) ∧ W.cell? ⟨G.P, 7, none⟩ = some (.map (some G.ob))) (first | assumption)
            (first
              | (go_at_call 61
                 (refine (home_c G.P G.B q F G.head _ HQ.out.2.2.2.2.drew rfl (by have := H3.out.2.2.2.B300; omega) (by have := H3.out.2.2.2.n1600; have := HQ.out.2.2.1; omega) HQ.out.2.2.2.1).mono ?_)
                 rintro e w5 ⟨rfl, rfl⟩)
              | (go_at_call 60
                 (refine HWr.out.mono ?_)
                 rintro e w5 ⟨rfl, D5, hst5, hnow5, hW5⟩
                 have hP5 := HQ.out.2.2.2.2.drew.turned hst5.turned (by
                   have hR3 := H3.out.2.2.2
                   rw [HD.out.d, HD.out.bb]
                   exact fun e => e.elim (fun e => hR3.blk.ne_ hR3.disk.bd (by decide) e) (fun e => hR3.blk.ne_ hR3.disk.bb (by decide) e))
                 have hS5 : w5.cell? ⟨G.P, 0, none⟩ = some (.pointer (some ⟨G.D.d, 0, none⟩)) ∧ w5.cell? ⟨G.P, 7, none⟩ = some (.map (some G.ob)) := ⟨hP5.cell 0, hP5.cell 7⟩
                 have H5 := Lib.hid (And.intro hst5 (And.intro hnow5 hW5))
                 clear hst5 hnow5 hW5 hP5))
          all_goals (
            clear hS0 hS5
            go_wp2_with fail
            refine ⟨⟨k + 1, D5, by have := H3.out.2.2.1; omega, by go_num, Lib.hid (HD.out.trans (DStep.after (Turned.below (Turned.refl _ wr).drew) H5.out.1)), Lib.hid ?_, Lib.hid (by rw [H5.out.2.2, HWl.out])⟩, by simp [intOf]; omega⟩
            rw [take_snoc' HQ.out.1, layF_snoc, ← HN.out, H5.out.2.1, HQ.out.2.1, HQ.out.2.2.2.1]
            rfl)
        · obtain rfl : k = u := by have := H3.out.2.2.1; omega
          have hb8 : ∀ {g : Nat} {t : TypeId} {cs : Array Value}, Blk w3 g t cs → t ≠ 81 → t ≠ 116 → ¬ (g = G.D.d ∨ g = G.D.bb) := fun hg h1 h2 e => e.elim (fun e => hg.ne_ H3.out.2.2.2.disk.bd h1 e) (fun e => hg.ne_ H3.out.2.2.2.disk.bb h2 e)
          have hPb := H3.out.2.2.2.blk.turned HD.out.turned (hb8 H3.out.2.2.2.blk (by decide) (by decide))
          have cr0 : wr.cell? ⟨G.P, 0, none⟩ = some (.pointer (some ⟨G.D.d, 0, none⟩)) := hPb.cell 0
          have hfl := flush_s Dk wr HD.out.rep HD.out.live (by rw [HWl.out]; omega)
          rw [HD.out.d] at hfl
          have HP := Lib.hid hPb
          clear hPb hb8
          go_wp2_with fail
          refine hfl.mono ?_
          clear hfl
          rintro e w4 ⟨rfl, D4, hst4, hnow4, hsy4⟩
          have hJ4 : LogRep w4 D4.d G.J := by
            have hl3 := (H3.out.2.2.2.log.dstep H3.out.2.2.2.disk HD.out)
            rw [← HD.out.d] at hl3
            have := hl3.dstep HD.out.rep hst4
            rw [hst4.d]; exact this
          have hw4 : G.D.now.length = D4.now.length := by rw [D4.now_len, hst4.len, HD.out.len, G.D.now_len]
          have hN4 : D4.now = layF G.D.now G.B G.f zs := by rw [hnow4, HN.out, ← H3.out.2.2.1, List.take_length]
          have hP4 := HP.out.turned hst4.turned (by
            have hR3 := H3.out.2.2.2
            rw [HD.out.d, HD.out.bb]
            exact fun e => e.elim (fun e => hR3.blk.ne_ hR3.disk.bd (by decide) e) (fun e => hR3.blk.ne_ hR3.disk.bb (by decide) e))
          have hon4 : LogDisk D4.now G.J := by
            rw [hN4]
            exact logDisk_layF H3.out.2.2.2.on H3.out.2.2.2.log.fits (by rw [H3.out.2.2.2.jroom]; omega) (by rw [H3.out.2.2.2.jfrm, H3.out.2.2.2.jroom]; have := H3.out.2.2.2.B4; omega) _ _
          have hrs := reset_c D4 G.J w4 hst4.rep hJ4 hst4.live (by rw [hsy4.1]; exact Nat.zero_le _) HH.out.2.1 (by rw [H3.out.2.2.2.jfrm, hst4.len, HD.out.len]; have := H3.out.2.2.2.fit; have := H3.out.2.2.2.B4; omega) hon4
          have cr1 : w4.cell? ⟨G.P, 1, none⟩ = some (.pointer (some ⟨G.J.b, 0, none⟩)) := hP4.cell 1
          have H4 := Lib.hid (And.intro hst4 (And.intro hN4 (And.intro hP4 hw4)))
          clear hst4 hnow4 hsy4 hJ4 hw4 hN4 hP4 hon4
          go_wp2_with fail
          refine hrs.mono ?_
          clear hrs
          rintro e w5 ⟨rfl, D5, J5, hls, hseq, hdata⟩
          have hdd : D4.d = G.D.d ∧ D4.bb = G.D.bb := ⟨by rw [H4.out.1.d, HD.out.d], by rw [H4.out.1.bb, HD.out.bb]⟩
          have hT5 : Turned (fun g => g = G.D.d ∨ g = G.D.bb ∨ g = G.J.b) w3 w5 := by
            have t1 := HD.out.turned
            have t2 := H4.out.1.turned
            have t3 := hls.turned
            rw [HD.out.d, HD.out.bb] at t2
            rw [hdd.1, hdd.2] at t3
            exact ((t1.trans t2 (fun _ _ e => e)).more (fun _ _ e => e.elim .inl (fun e => .inr (.inl e)))).trans t3 (fun _ _ e => e)
          have hR3 := H3.out.2.2.2
          have hnb : ∀ {g : Nat} {t : TypeId} {cs : Array Value}, Blk w3 g t cs → t ≠ 81 → t ≠ 116 → t ≠ 126 → ¬ (g = G.D.d ∨ g = G.D.bb ∨ g = G.J.b) := by
            rintro g t cs hg h1 h2 h3 (e | e | e)
            · exact hg.ne_ hR3.disk.bd h1 e
            · exact hg.ne_ hR3.disk.bb h2 e
            · exact hg.ne_ hR3.log.blk h3 e
          have hnm : ∀ {g : Nat} {m : List (Int × Value)}, IMap w3 g m → ¬ (g = G.D.d ∨ g = G.D.bb ∨ g = G.J.b) := by
            rintro g m hg (e | e | e)
            · exact hg.ne_blk hR3.disk.bd e
            · exact hg.ne_blk hR3.disk.bb e
            · exact hg.ne_blk hR3.log.blk e
          have hP5 := hR3.blk.turned hT5 (hnb hR3.blk (by decide) (by decide) (by decide))
          obtain ⟨vm5, hvm5, hks5⟩ := hR3.over.imap
          have hm5 := hvm5.turned hT5 (hnm hvm5)
          have cr7 : w5.cell? ⟨G.P, 7, none⟩ = some (.map (some G.ob)) := hP5.cell 7
          have H5 := Lib.hid (And.intro hls (And.intro hseq (And.intro hdata (And.intro hT5 (And.intro hP5 hm5)))))
          clear hls hseq hdata hdd hT5 hR3 hnb hnm hP5 hvm5 hks5 hm5 cr0 cr1
          go_wp2_with (
            (refine wpList_mclear rfl (.tmp 70) 82 rfl Try.underlying82 rfl H5.out.2.2.2.2.2 ?_)
            intro w6 hm6 ht6 hs6
            have H6 := Lib.hid (And.intro hm6 ht6)
            clear hm6 ht6 hs6)
          go_ret
          obtain ⟨hls, hseq, hdata, hT5, hP5, hm5⟩ := H5.out
          have hb0 : ∀ {g : Nat} {t : TypeId} {cs : Array Value}, Blk w5 g t cs → ¬ g = G.ob := fun hg e => hm5.ne_blk hg e.symm
          have ho8 : ∀ g, g = G.ob → Not8 5 w5 g := fun g e => by subst e; exact hm5.not8
          have hdd : D4.d = G.D.d := by rw [H4.out.1.d, HD.out.d]
          have hbb : D4.bb = G.D.bb := by rw [H4.out.1.bb, HD.out.bb]
          have hl5 := hls.log
          rw [hdd] at hl5
          refine settle_fin HH.out.1 H3.out.2.1 (hls.disk.turned0 hls.sync.1 H6.out.2 (hb0 hls.disk.bd) (hb0 hls.disk.bb)) (hl5.turned H6.out.2 (hb0 hl5.blk) ho8) (hls.d.trans hdd) (hls.bb.trans hbb) hls.b hls.frm hls.room (by rw [hls.len, H4.out.1.len, HD.out.len]) hls.live hls.sync hls.on hseq hdata ?_ ((hT5.more (fun g _ e => by rcases e with e | e | e <;> simp [e])).trans H6.out.2 (fun g _ e => by simp [e])) H6.out.1
          intro i hi
          rw [hls.out i (by rw [H3.out.2.2.2.jfrm, H3.out.2.2.2.jroom]; have := H3.out.2.2.2.B4; omega), H4.out.2.1, HZ.out]
    · obtain ⟨hR1, hb1, hs1, hr, hob⟩ := H1.out
      have HO2 := Lib.hid (own_turned HO.out ht2 (fun g e => by have := hfresh g e; omega))
      have H2 := Lib.hid (And.intro hR2 (And.intro ht2 (And.intro hs2 (And.intro hfresh hu))))
      rw [← hu] at HO2 ⊢
      have hb4 : w1.heap.size ≤ w2.heap.size := by rw [hs2]; exact HB.out
      clear hget hnin hlv hfresh hR2 ht2 hs2 hx16 hvl2 hu hR1 hb1 hs1 hr hob
      go_wp2_with (
        (refine at_dst 21 rfl ?_)
        obtain ⟨i0, hi, hz, hs, hb⟩ := HI.out
        (refine wpList_append_rd rfl (.tmp 18) (.tmp 20) 22 rfl Try.underlying22 hi hz hs hb rfl (by decide) w1.heap.size (.slice A u c) rfl (HO2.out.alloc _) rfl
          (Rd.of_blk (n := 1) (c := 1) (sz := 1) (cs := #[.int .i64 n]) (by simpa using Blk.new w2 3 #[.int .i64 n]) (Nat.le_refl _) (by simp [maxLen]) (by simp)) (by simp [Value.oneCell']) (by simp only [maxLen]; omega) (by omega) (by simp; omega) ?_)
        intro v3 w3 hown3 hgr3 hat3
        have HO3 := Lib.hid hown3
        have HG3 := Lib.hid hgr3
        clear hown3 hgr3 hat3 hi hz hs hb)
      obtain ⟨hR2, ht2, hs2, hfresh, hu⟩ := H2.out
      obtain ⟨hR1, hb1, hs1, hr, hob⟩ := H1.out
      have hres := coll_round (W := w.heap.size) (base := w1.heap.size) (w0 := w) (vm := vm) hu rfl (by omega) (by omega) (by omega) HW.out HB.out hR2 ht2 hs2 hfresh HO3.out HG3.out
      go_roundw
      case rel => exact hres.1
      case measure => exact hres.2
end Go.Proofs.Ytliakkpmmmgmhaa
/- A transaction is kept: what it leaves. -/
namespace Go.Proofs.Ytliakkpmmmgmhaa
open Go.RowKit

/-- A transaction with the page of its meta. -/
def TxG.sealed (T : TxG) : TxG := if T.own = true then { T with ks := kput T.ks 0, f := pput T.f 0 (encB T.M.used T.M.root) } else T
theorem sealed_yes {T : TxG} (h : T.own = true) : T.sealed = { T with ks := kput T.ks 0, f := pput T.f 0 (encB T.M.used T.M.root) } := if_pos h
theorem sealed_no {T : TxG} (h : T.own = false) : T.sealed = T := if_neg (by rw [h]; decide)
theorem sealed_b (T : TxG) : T.sealed.b = T.b ∧ T.sealed.M = T.M ∧ T.sealed.pb = T.pb ∧ T.sealed.own = T.own := by
  unfold TxG.sealed; split <;> exact ⟨rfl, rfl, rfl, rfl⟩
def SealRel (w : World) (G : PgG) (T : TxG) (wc : World) : Prop := Hid (PgRep wc { G with tx := some T.sealed }) ∧ Hid (Turned (fun x => x = T.pb) w wc)
/-- The pages of a transaction, in their order. -/
def recL (f : Int → Option (List UInt8)) (zs : List Int) : List (Nat × List UInt8) := zs.map (fun k => (k.toNat, (f k).getD []))
theorem pagesB_append : ∀ (L1 L2 : List (Nat × List UInt8)), pagesB (L1 ++ L2) = pagesB L1 ++ pagesB L2
  | [], _ => rfl
  | x :: t, L2 => by
    show numB x.1 ++ (numB x.2.length ++ (x.2 ++ pagesB (t ++ L2))) = (numB x.1 ++ (numB x.2.length ++ (x.2 ++ pagesB t))) ++ pagesB L2
    rw [pagesB_append t L2]; simp
theorem pagesB_snoc (L : List (Nat × List UInt8)) (x : Nat × List UInt8) : pagesB (L ++ [x]) = pagesB L ++ (numB x.1 ++ (numB x.2.length ++ x.2)) := by
  rw [pagesB_append]
  show pagesB L ++ (numB x.1 ++ (numB x.2.length ++ (x.2 ++ []))) = _
  rw [List.append_nil]
theorem pagesB_516 {n : Nat} : ∀ L : List (Nat × List UInt8), n ≤ 1600 → (∀ x ∈ L, x.1 ≤ n ∧ x.2.length = 512) → (pagesB L).length ≤ 516 * L.length
  | [], _, _ => Nat.le_refl _
  | x :: t, hn, h => by
    have h1 := h x (List.mem_cons_self ..)
    have h2 := pagesB_516 t hn (fun y hy => h y (List.mem_cons_of_mem _ hy))
    have h3 := num2 (n := x.1) (by omega)
    have h4 := num2 (n := x.2.length) (by omega)
    simp only [pagesB, List.length_append, List.length_cons]
    omega
def GivesBs (w : World) (l : List UInt8) (e : Ending) (w' : World) : Prop := ∃ A n c, e = .returned (.slice A n c) ∧ Bs 5 w' A n c l ∧ Below w.heap.size w w'
theorem GivesOwn.bs {w w' : World} {l : List UInt8} {e : Ending} (h : GivesOwn w l e w') : GivesBs w l e w' := by
  obtain ⟨A, c, rfl, ho, hb⟩ := h
  exact ⟨A, _, c, rfl, Bs.of_own ho, hb⟩
theorem num_b (n : Nat) (hn : n < 18446744073709551616) (w : World) : Calls Try.prog 45 #[.int .u64 (n : Int)] w (GivesBs w (numB n)) := (num_c n hn w).mono fun _ _ h => h.bs
theorem text_b (l : List UInt8) (hl : l.length ≤ 1000000000) (w : World) : Calls Try.prog 47 #[.string ⟨l.toArray⟩] w (GivesBs w (numB l.length ++ l)) := by
  have hs : (⟨l.toArray⟩ : ByteArray).size = l.length := by show l.toArray.size = _; simp
  have := text_c ⟨l.toArray⟩ (by rw [hs]; exact hl) w
  have et : (numB (⟨l.toArray⟩ : ByteArray).size ++ (⟨l.toArray⟩ : ByteArray).data.toList) = numB l.length ++ l := by rw [hs]
  rw [et] at this
  exact this.mono fun _ _ h => h.bs
theorem concat3 (pb : Nat) {A1 A2 A3 : Option Addr} {n1 n2 n3 c1 c2 c3 : Nat} {l1 l2 l3 : List UInt8} (w : World) (hb : Blk w pb 31 #[.slice A1 n1 c1, .slice A2 n2 c2, .slice A3 n3 c3]) (h1 : Bs 5 w A1 n1 c1 l1) (h2 : Bs 5 w A2 n2 c2 l2) (h3 : Bs 5 w A3 n3 c3 l3) (hn : l1.length + l2.length + l3.length ≤ 1000000) :
    Calls Try.prog 46 #[.slice (some ⟨pb, 0, none⟩) 3 3] w (GivesBs w (l1 ++ (l2 ++ l3))) := by
  have := concat_bytes pb [(A1, n1, c1, l1), (A2, n2, c2, l2), (A3, n3, c3, l3)] w hb (fun p hp => by
    simp at hp
    rcases hp with rfl | rfl | rfl
    · exact h1
    · exact h2
    · exact h3) (by simp) (by simp [bytesOf]; omega)
  refine this.mono fun e w' h => ?_
  have eb : bytesOf [(A1, n1, c1, l1), (A2, n2, c2, l2), (A3, n3, c3, l3)] = l1 ++ (l2 ++ l3) := by simp [bytesOf]
  rw [eb] at h
  exact h.bs
/-- What Drop of a pool leaves. -/
def DropDone (w : World) (Q : PoolG) (m : Nat) (e : Ending) (w' : World) : Prop :=
  ∃ (b : Bool) (Q' : PoolG), e = .returned (.bool b) ∧ PoolRep w' Q' ∧ Q'.p = Q.p ∧ Q'.fb = Q.fb ∧ Q'.mb = Q.mb ∧ Turned Q.own w w' ∧ ∀ f ∈ Q'.L, f.page ≠ (m : Int) ∧ (0 ≤ f.page → ∃ g ∈ Q.L, f.page = g.page ∧ f.l = g.l)
theorem drop_pg (Q : PoolG) (m : Nat) (w : World) (h : PoolRep w Q) : Calls Try.prog 14 #[.pointer (some ⟨Q.p, 0, none⟩), .int .i64 (m : Int)] w (DropDone w Q m) := by
  cases hmg : mget Q.m (m : Int) with
  | none =>
    refine (drop_miss Q m w h hmg).mono ?_
    rintro e w' ⟨rfl, rfl⟩
    refine ⟨false, Q, rfl, h, rfl, rfl, rfl, Turned.refl _ _, fun f hf => ⟨?_, fun _ => ⟨f, hf, rfl, rfl⟩⟩⟩
    intro e
    obtain ⟨i, hi⟩ := List.getElem?_of_mem hf
    rw [(h.idx (m : Int) _).2 ⟨i, f, hi, e, by omega, rfl⟩] at hmg; cases hmg
  | some v =>
    obtain ⟨i, f, hf, hp, _, rfl⟩ := (h.idx _ v).1 hmg
    refine (drop_hit Q m i f w h hmg hf hp (by omega)).mono ?_
    rintro e w' ⟨rfl, hP, hT⟩
    refine ⟨true, _, rfl, hP, rfl, rfl, rfl, hT, ?_⟩
    intro g hg
    obtain ⟨j, hj⟩ := List.getElem?_of_mem hg
    have hj' : (Q.L.set i noFrm)[j]? = some g := hj
    by_cases e : i = j
    · subst e
      rw [List.getElem?_set] at hj'
      simp at hj'
      obtain ⟨_, rfl⟩ := hj'
      exact ⟨by show (-1 : Int) ≠ m; omega, fun h => absurd h (by decide)⟩
    · rw [List.getElem?_set_ne e] at hj'
      refine ⟨fun e2 => e ?_, fun _ => ⟨g, List.mem_of_getElem? hj', rfl, rfl⟩⟩
      exact h.uniq i j f g hf hj' (by rw [hp, e2]) (by omega)
/-- The transaction is let go. -/
theorem tx_off {w w' : World} {G : PgG} (h : PgRep w G) (hw : w' = w.setCell ⟨G.P, 8, none⟩ (.pointer none) ∨ w' = (w.setCell ⟨G.P, 8, none⟩ (.pointer none)).drew) : PgRep w' { G with tx := none } ∧ Turned (fun x => x = G.P) w w' := by
  have key : PgRep (w.setCell ⟨G.P, 8, none⟩ (.pointer none)) { G with tx := none } ∧ Turned (fun x => x = G.P) w (w.setCell ⟨G.P, 8, none⟩ (.pointer none)) := by
    have hT : Turned (fun x => x = G.P) w (w.setCell ⟨G.P, 8, none⟩ (.pointer none)) := Turned.setCell (S := fun x => x = G.P) (Turned.refl _ w) (p := ⟨G.P, 8, none⟩) (fun _ => rfl) _
    exact ⟨h.turnP hT none (h.blk.set_ 8 (.pointer none)) (fun _ e => nomatch e) (fun _ e => nomatch e), hT⟩
  rcases hw with rfl | rfl
  · exact key
  · exact ⟨key.1.below (Turned.below (Turned.refl _ _).drew), key.2.drew⟩
/-- What is known where a record has room. -/
structure Roomy (G1 : PgG) (sl : Nat) (D' : DiskG) (J' : LogG) (f' : Int → Option (List UInt8)) : Prop where
  d : D'.d = G1.D.d
  bb : D'.bb = G1.D.bb
  len : D'.L.length = G1.D.L.length
  b : J'.b = G1.J.b
  seq : J'.seq ≤ G1.J.seq + 1
  data : (J'.data = G1.J.data ∧ f' = G1.f) ∨ (J'.data = [] ∧ f' = noF)
  pages : ∀ k, k ≤ G1.n → pageOf D' G1.B f' k = pageOf G1.D G1.B G1.f k
  now0 : D'.now[0]? = G1.D.now[0]?
  room : J'.data.length + (sl + 14) ≤ (G1.B - 2) * 512
def RoomRel (w : World) (G1 : PgG) (sl : Nat) (wc : World) : Prop :=
  ∃ D' J' ks' f', Hid (PgRep wc { G1 with D := D', J := J', ks := ks', f := f' }) ∧ Hid (Roomy G1 sl D' J' f') ∧ Hid (Turned (fun g => g = G1.D.d ∨ g = G1.D.bb ∨ g = G1.J.b ∨ g = G1.ob) w wc)
/-- The pages of a record, laid over the others one by one. -/
def OverRel (w7 : World) (Q : PoolG) (ob : Nat) (ks : List Int) (f : Int → Option (List UInt8)) (L : List (Nat × List UInt8)) (i : Value) (wr : World) : Prop :=
  ∃ (k : Nat) (Q' : PoolG), k ≤ L.length ∧ i = .int .i64 (k : Int) ∧ Hid (PMap wr ob (redoK ks (L.take k)) (redoF f (L.take k))) ∧
    Hid (PoolRep wr Q' ∧ Q'.p = Q.p ∧ Q'.fb = Q.fb ∧ Q'.mb = Q.mb ∧ ∀ fr ∈ Q'.L, 0 ≤ fr.page → (∃ g ∈ Q.L, fr.page = g.page ∧ fr.l = g.l) ∧ ∀ x ∈ L.take k, fr.page ≠ (x.1 : Int)) ∧ Hid (Turned (fun x => x = ob ∨ Q.own x) w7 wr)
theorem redoF_out {f : Int → Option (List UInt8)} {L : List (Nat × List UInt8)} {n : Int} (h : ∀ x ∈ L, n ≠ (x.1 : Int)) : redoF f L n = f n := by
  unfold redoF
  induction L generalizing f with
  | nil => rfl
  | cons x L ih =>
    rw [List.foldl_cons, ih (fun y hy => h y (List.mem_cons_of_mem _ hy)), pput_other _ _ (h x (List.mem_cons_self ..))]
theorem redoF_recL {f g : Int → Option (List UInt8)} {zs : List Int} (hz : ∀ k ∈ zs, 0 ≤ k ∧ (f k).isSome = true) (q : Nat) : redoF g (recL f zs) q = if (q : Int) ∈ zs then f q else g q := by
  unfold recL redoF
  induction zs generalizing g with
  | nil => simp
  | cons k zs ih =>
    rw [List.map_cons, List.foldl_cons, ih (fun k hk => hz k (List.mem_cons_of_mem _ hk))]
    obtain ⟨h1, h2⟩ := hz k (List.mem_cons_self ..)
    by_cases hm : (q : Int) ∈ zs
    · rw [if_pos hm, if_pos (List.mem_cons_of_mem _ hm)]
    · rw [if_neg hm]
      by_cases e : (q : Int) = k
      · subst e
        rw [if_pos (List.mem_cons_self ..)]
        obtain ⟨l, hl⟩ := Option.isSome_iff_exists.1 h2
        show pput g ((q : Int).toNat : Int) ((f q).getD []) q = _
        rw [Int.toNat_natCast, pput_same, hl]; rfl
      · rw [if_neg (fun h => by rcases List.mem_cons.1 h with h | h; exact e h; exact hm h)]
        show pput g ((k.toNat : Nat) : Int) ((f k).getD []) q = _
        rw [pput_other _ _ (by omega)]
/-- What a transaction that is kept leaves. -/
def CommitKept (w : World) (G : PgG) (T : TxG) (w' : World) : Prop :=
  ∃ (D' : DiskG) (J' : LogG) (Q' : PoolG) (ks' : List Int) (f' : Int → Option (List UInt8)), PgRep w' { G with D := D', J := J', Q := Q', M := T.M, ks := ks', f := f', tx := none } ∧ D'.L.length = G.D.L.length ∧ J'.seq ≤ G.J.seq + 2 ∧
    (∀ k : Nat, k ≤ G.n → pageOf D' G.B f' k = match T.sealed.f (k : Int) with | some l => l | none => pageOf G.D G.B G.f k) ∧ D'.now[0]? = G.D.now[0]? ∧
    (∃ L, RecOk G.n L ∧ ((J'.data = G.J.data ++ frameB (recB L) ∧ f' = redoF G.f L) ∨ (J'.data = frameB (recB L) ∧ f' = redoF noF L))) ∧ Turned G.own w w' ∧
    (∀ k, PgG.own { G with D := D', J := J', Q := Q', M := T.M, ks := ks', f := f', tx := none } k → G.own k) ∧ D'.d = G.D.d ∧ D'.bb = G.D.bb
def CommitDone (w : World) (G : PgG) (T : TxG) (e : Ending) (w' : World) : Prop :=
  (T.sealed.ks = [] ∧ e = .returned (.int .i64 0) ∧ PgRep w' { G with tx := none } ∧ Turned G.own w w') ∨
  (T.sealed.ks ≠ [] ∧ mostM (G.B : Int) < T.sealed.ks.length ∧ e = .returned (.int .i64 40) ∧ PgRep w' { G with tx := none } ∧ Turned G.own w w') ∨
  (T.sealed.ks ≠ [] ∧ ¬ mostM (G.B : Int) < T.sealed.ks.length ∧ e = .returned (.int .i64 0) ∧ CommitKept w G T w')
theorem commit_fin {w wz w7 w8 w9 : World} {G : PgG} {T T' : TxG} {D2 D3 : DiskG} {J2 J3 : LogG} {ks2 : List Int} {f2 : Int → Option (List UInt8)} {Q' : PoolG} {L : List (Nat × List UInt8)} {zs : List Int} {ns : Nat}
    (htx : G.tx = some T) (hTe : T' = T.sealed) (h2 : PgRep wz { G with D := D2, J := J2, ks := ks2, f := f2, tx := some T' }) (hR : Roomy { G with tx := some T' } ns D2 J2 f2) (hW : Turned G.own w wz)
    (k7 : Turned (fun g => g = G.D.d ∨ g = G.D.bb ∨ g = G.J.b) wz w7) {wa : World} (hls : LStep wa w7 D2 D3 J2 J3) (hsq : J3.seq = J2.seq + 1) (hdt : J3.data = J2.data ++ frameB (recB L))
    (k8 : Turned (fun x => x = G.ob ∨ G.Q.own x) w7 w8) (hO : PMap w8 G.ob (redoK ks2 L) (redoF f2 L)) (hQ : PoolRep w8 Q') (q1 : Q'.p = G.Q.p) (q2 : Q'.fb = G.Q.fb) (q3 : Q'.mb = G.Q.mb)
    (hfr : ∀ fr ∈ Q'.L, 0 ≤ fr.page → (∃ g ∈ G.Q.L, fr.page = g.page ∧ fr.l = g.l) ∧ ∀ x ∈ L, fr.page ≠ (x.1 : Int))
    (k9 : Turned (fun x => x = G.P) w8 w9) (hB : Blk w9 G.P 89 (((PgG.head { G with D := D2, J := J2, ks := ks2, f := f2, tx := some T' }).setIfInBounds 5 (.slice (some ⟨T'.M.ub, 0, none⟩) T'.M.used.length T'.M.uc)).setIfInBounds 6 (.slice T'.M.rA T'.M.root.length T'.M.rc) |>.setIfInBounds 8 (.pointer none)))
    (hL : L = recL T'.f zs) (hLn : L.length ≤ 1601) (hLok : ∀ x ∈ L, x.1 ≤ G.n ∧ x.2.length = 512) (hz : ∀ k : Int, k ∈ zs ↔ (T'.f k).isSome = true) (hz0 : ∀ k ∈ zs, 0 ≤ k) : CommitKept w G T w9 := by
  obtain ⟨eb, eM, epb, _⟩ := sealed_b T
  rw [← hTe] at eb eM epb
  have hd2 : D2.d = G.D.d := hR.d
  have hb2 : D2.bb = G.D.bb := hR.bb
  have hj2 : J2.b = G.J.b := hR.b
  have hd3 : D3.d = G.D.d := hls.d.trans hd2
  have hb3 : D3.bb = G.D.bb := hls.bb.trans hb2
  have hj3 : J3.b = G.J.b := hls.b.trans hj2
  have hjr : J2.room = (G.B - 2) * 512 := h2.jroom
  have hjf : J2.frm = 1 := h2.jfrm
  have hB4 : 4 ≤ G.B := h2.B4
  have hfit : 2 + G.B + G.n ≤ D2.L.length := h2.fit
  have hn16 : G.n ≤ 1600 := h2.n1600
  have hnow : ∀ i, i < 1 ∨ 1 + G.B ≤ i → D3.now[i]? = D2.now[i]? := fun i hi => hls.out i (by rw [hjf, hjr]; omega)
  have hdz : Blk wz G.D.d 81 D2.head := by rw [← hd2]; exact h2.disk.bd
  have hbz : Blk wz G.D.bb 116 D2.B := by rw [← hb2]; exact h2.disk.bb
  have hjz : Blk wz G.J.b 126 (J2.head D2.d) := by rw [← hj2]; exact h2.log.blk
  have hPz : Blk wz G.P 89 (PgG.head { G with D := D2, J := J2, ks := ks2, f := f2, tx := some T' }) := h2.blk
  have hQz : PoolRep wz G.Q := h2.pool
  have hOz : PMap wz G.ob ks2 f2 := h2.over
  have hTz := h2.tx T' rfl
  obtain ⟨Cu, hCu⟩ := hTz.mrep.ub_blk
  have k79 : Turned (fun g => g = G.P ∨ g = G.D.d ∨ g = G.D.bb ∨ g = G.J.b ∨ g = G.ob ∨ G.Q.own g) wz w9 :=
    ((k7.more (S' := fun g => g = G.P ∨ g = G.D.d ∨ g = G.D.bb ∨ g = G.J.b ∨ g = G.ob ∨ G.Q.own g) (fun g _ e => by rcases e with e | e | e <;> simp [e])).trans k8 (fun g _ e => by rcases e with e | e <;> simp [e])).trans k9 (fun g _ e => .inl e)
  have h8F : ∀ g, (g = G.P ∨ g = G.D.d ∨ g = G.D.bb ∨ g = G.J.b ∨ g = G.ob ∨ G.Q.own g) → Not8 5 wz g := by
    rintro g (e | e | e | e | e | e)
    · subst e; exact hPz.not8 (by decide)
    · subst e; exact hdz.not8 (by decide)
    · subst e; exact hbz.not8 (by decide)
    · subst e; exact hjz.not8 (by decide)
    · subst e; exact hOz.not8
    · exact hQz.not8 g e
  have hub : ¬ (T'.M.ub = G.P ∨ T'.M.ub = G.D.d ∨ T'.M.ub = G.D.bb ∨ T'.M.ub = G.J.b ∨ T'.M.ub = G.ob ∨ G.Q.own T'.M.ub) := by
    rintro (e | e | e | e | e | e)
    · exact hCu.ne_ hPz (by decide) e
    · exact hCu.ne_ hdz (by decide) e
    · exact hCu.ne_ hbz (by decide) e
    · exact hCu.ne_ hjz (by decide) e
    · exact hOz.ne_blk hCu e.symm
    · exact pool_ne hQz hCu (by decide) (by decide) e
  have hM9 : MetaRep w9 T.M := by rw [← eM]; exact hTz.mrep.turned k79 hub h8F
  -- what stands behind Add
  have hQ7 : PoolRep w7 G.Q := hQz.turned k7 (by
      rintro (e | e | e)
      · exact hQz.bp.ne_ hdz (by decide) e
      · exact hQz.bp.ne_ hbz (by decide) e
      · exact hQz.bp.ne_ hjz (by decide) e) (by
      rintro (e | e | e)
      · exact hQz.bf.ne_ hdz (by decide) e
      · exact hQz.bf.ne_ hbz (by decide) e
      · exact hQz.bf.ne_ hjz (by decide) e) (by
      rintro (e | e | e)
      · exact hQz.bm.ne_blk hdz e
      · exact hQz.bm.ne_blk hbz e
      · exact hQz.bm.ne_blk hjz e) (fun g e => h8F g (by rcases e with e | e | e <;> simp [e]))
  have hO7 : PMap w7 G.ob ks2 f2 := hOz.turned k7 (by
      rintro (e | e | e)
      · exact hOz.ne_blk hdz e
      · exact hOz.ne_blk hbz e
      · exact hOz.ne_blk hjz e) (fun g e => h8F g (by rcases e with e | e | e <;> simp [e]))
  have n78 : ∀ {g : Nat} {t : TypeId} {cs : Array Value}, Blk w7 g t cs → t ≠ 61 → t ≠ 64 → ¬ (g = G.ob ∨ G.Q.own g) := fun hg h1 h2 e => e.elim (fun e => hO7.ne_blk hg e.symm) (pool_ne hQ7 hg h1 h2)
  have h878 : ∀ g, (g = G.ob ∨ G.Q.own g) → Not8 5 w7 g := fun g e => e.elim (fun e => by subst e; exact hO7.not8) (hQ7.not8 g)
  have hP8 : Blk w8 G.P 89 (PgG.head { G with D := D2, J := J2, ks := ks2, f := f2, tx := some T' }) := by
    have hP7 := hPz.turned k7 (by
      rintro (e | e | e)
      · exact hPz.ne_ hdz (by decide) e
      · exact hPz.ne_ hbz (by decide) e
      · exact hPz.ne_ hjz (by decide) e)
    exact hP7.turned k8 (n78 hP7 (by decide) (by decide))
  have h889 : ∀ g, g = G.P → Not8 5 w8 g := fun g e => by subst e; exact hP8.not8 (by decide)
  have hD8 := hls.disk.turned0 hls.sync.1 k8 (n78 hls.disk.bd (by decide) (by decide)) (n78 hls.disk.bb (by decide) (by decide))
  have hD9 := hD8.turned0 hls.sync.1 k9 (hD8.bd.ne_ hP8 (by decide)) (hD8.bb.ne_ hP8 (by decide))
  have hJ8 := hls.log.turned k8 (n78 hls.log.blk (by decide) (by decide)) h878
  have hJ9 := hJ8.turned k9 (hJ8.blk.ne_ hP8 (by decide)) h889
  have hQ9 := hQ.turned k9 (hQ.bp.ne_ hP8 (by decide)) (hQ.bf.ne_ hP8 (by decide)) (hQ.bm.ne_blk hP8) h889
  have hO9 := hO.turned k9 (hO.ne_blk hP8) h889
  have hrec : ∀ q : Nat, redoF f2 L q = if (q : Int) ∈ zs then T'.f q else f2 q := fun q => by
    rw [hL]; exact redoF_recL (fun k hk => ⟨hz0 k hk, (hz k).1 hk⟩) q
  have hframes : ∀ fr ∈ Q'.L, 0 ≤ fr.page → fr.page ≤ G.n ∧ redoF f2 L fr.page = none ∧ D3.now[1 + G.B + fr.page.toNat]? = some fr.l := by
    intro fr hf h0
    obtain ⟨⟨g, hg, e1, e2⟩, h3⟩ := hfr fr hf h0
    obtain ⟨a, b, c⟩ := h2.frames g hg (by omega)
    rw [← e1] at a b c
    refine ⟨a, by rw [redoF_out h3]; exact b, ?_⟩
    rw [hnow _ (.inr (by omega)), e2]
    exact c
  have htxul := h2.txul T' rfl
  have hkeys : ∀ n' l, redoF f2 L n' = some l → 0 ≤ n' ∧ n' ≤ (G.n : Int) ∧ l.length = 512 := redoF_keys L f2 h2.keys hLok
  have hhead : PgG.head { G with D := D3, J := J3, Q := Q', M := T.M, ks := redoK ks2 L, f := redoF f2 L, tx := none } = ((((PgG.head { G with D := D2, J := J2, ks := ks2, f := f2, tx := some T' }).setIfInBounds 5 (.slice (some ⟨T'.M.ub, 0, none⟩) T'.M.used.length T'.M.uc)).setIfInBounds 6 (.slice T'.M.rA T'.M.root.length T'.M.rc)).setIfInBounds 8 (.pointer none)) := by
    unfold PgG.head
    rw [hd3, hj3, hd2, hj2, q1, eM]
    rfl
  refine ⟨D3, J3, Q', redoK ks2 L, redoF f2 L, ?_, hls.len.trans hR.len, ?_, ?_, ?_, ⟨L, ⟨hLn, hLok⟩, ?_⟩, ?_, ?_, hd3, hb3⟩
  · exact { blk := (by rw [hhead]; exact hB), disk := hD9, log := (by show LogRep w9 D3.d J3; rw [hls.d]; exact hJ9), pool := hQ9, mrep := hM9, over := hO9, tx := (fun _ e => nomatch e), live := hls.live, sync := hls.sync, on := hls.on, jfrm := hls.frm.trans hjf, jroom := hls.room.trans hjr, B4 := hB4, B300 := h2.B300, n1 := h2.n1, n1600 := hn16, fit := (by show _ ≤ D3.L.length; rw [hls.len]; exact hfit), ul := (by show T.M.used.length = _; rw [← eM]; exact htxul.1), frames := hframes, keys := hkeys, ne1 := (by show G.ob ≠ Q'.mb; rw [q3]; exact h2.ne1), txul := (fun _ e => nomatch e) }
  · have : J2.seq ≤ G.J.seq + 1 := hR.seq
    omega
  · intro k hk
    unfold pageOf
    rw [hrec k, hnow _ (.inr (by omega)), ← hTe]
    cases hf : T'.f (k : Int) with
    | some l =>
      rw [if_pos ((hz _).2 (by rw [hf]; rfl))]
    | none =>
      rw [if_neg (fun h => by have := (hz _).1 h; rw [hf] at this; cases this)]
      exact hR.pages k hk
  · rw [hnow 0 (.inl (by omega))]; exact hR.now0
  · rcases hR.data with ⟨h3, h4⟩ | ⟨h3, h4⟩
    · exact .inl ⟨by rw [hdt, h3], by rw [h4]⟩
    · exact .inr ⟨by rw [hdt, h3, List.nil_append], by rw [h4]⟩
  · refine hW.trans k79 (fun g _ e => ?_)
    unfold PgG.own
    rcases e with e | e | e | e | e | e <;> simp [e]
  · intro g hg
    unfold PgG.own PoolG.own at hg ⊢
    simp only [hd3, hb3, hj3, q1, q2, q3] at hg
    rcases hg with e | e | e | e | e | e | e | ⟨_, e, _⟩
    · exact .inl e
    · exact .inr (.inl e)
    · exact .inr (.inr (.inl e))
    · exact .inr (.inr (.inr (.inl e)))
    · exact .inr (.inr (.inr (.inr (.inl e))))
    · exact .inr (.inr (.inr (.inr (.inr (.inr (.inr ⟨T, htx, .inr (.inl e)⟩))))))
    · exact .inr (.inr (.inr (.inr (.inr (.inr (.inl e))))))
    · cases e
end Go.Proofs.Ytliakkpmmmgmhaa
