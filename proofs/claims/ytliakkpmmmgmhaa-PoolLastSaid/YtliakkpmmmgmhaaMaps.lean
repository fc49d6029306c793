/- Maps whose keys are whole numbers: what a store, a delete, a count, a clearing and a range do. No program in it. -/
import Derived.Test.YtliakkpmmmgmhaaBase
import Derived.Maps.OwnSet
namespace Go.Proofs.Ytliakkpmmmgmhaa
open Go.RowKit

/-- Any operation that runs. -/
theorem wpList_value {P : Program} {w w' : World} {ops : Array Oper} {rest : List Oper} {o : Oper} {a : Act} {Q : Exit → Act → World → Prop} {v : Value}
    (hg : o.guard = none) (hrun : (execOp a.eval o).run P w = .ok (.value v) w') (h : wpList P ops Q rest (a.put o.dst v) w') : wpList P ops Q (o :: rest) a w := by
  refine wpList_plain hg fun K' hK' => ?_
  unfold Oper.wp
  rw [hrun]
  exact hK' _ _ h
theorem wpList_skips {P : Program} {w w' : World} {ops : Array Oper} {rest : List Oper} {o : Oper} {a : Act} {Q : Exit → Act → World → Prop}
    (hg : o.guard = none) (hrun : (execOp a.eval o).run P w = .ok .skip w') (h : wpList P ops Q rest (a.put o.dst undef) w') : wpList P ops Q (o :: rest) a w := by
  refine wpList_plain hg fun K' hK' => ?_
  unfold Oper.wp
  rw [hrun]
  exact hK' _ _ h
/-- The operation that writes this slot. -/
theorem at_dst {P : Program} {W : World} {ops : Array Oper} {rest : List Oper} {o : Oper} {a : Act} {Q : Exit → Act → World → Prop} (N : Nat) (_hd : o.dst = some N) (h : wpList P ops Q (o :: rest) a W) : wpList P ops Q (o :: rest) a W := h

theorem entries_length {es : Array MapEntry} {m : List (Int × Value)} (h : Entries es m) : es.size = m.length := by
  have := congrArg List.length h
  simpa using this
theorem entries_at {es : Array MapEntry} {m : List (Int × Value)} (h : Entries es m) {j : Nat} {x : Int × Value} (hx : m[j]? = some x) : ∃ e, es[j]? = some e ∧ e.key = .int .i64 x.1 ∧ e.val = x.2 := by
  have h1 := congrArg (fun l => l[j]?) h
  simp only [List.getElem?_map, hx, Option.map_some] at h1
  cases he : es.toList[j]? with
  | none => simp [he] at h1
  | some e =>
    rw [he] at h1
    simp at h1
    exact ⟨e, by simpa using he, h1.1, h1.2⟩
theorem entries_push {es : Array MapEntry} {m : List (Int × Value)} (h : Entries es m) (n : Int) (v : Value) (c : Nat) : Entries (es.push { key := .int .i64 n, val := v, born := c }) (m ++ [(n, v)]) := by
  unfold Entries at *
  simp [h]
theorem map_modify_at {α : Type} (p : α → Bool) (f : α → α) : ∀ (l : List α) (j : Nat), l.findIdx? p = some j → (l.map p).count true ≤ 1 → l.modify j f = l.map (fun x => if p x then f x else x)
  | [], j, h, _ => by simp at h
  | x :: l, j, h, hc => by
    rw [List.findIdx?_cons] at h
    by_cases hx : p x = true
    · simp [hx] at h
      subst h
      simp only [List.modify_zero_cons, List.map_cons, hx, if_true]
      congr 1
      simp only [List.map_cons, hx, List.count_cons_self] at hc
      have h0 : (l.map p).count true = 0 := by omega
      rw [List.count_eq_zero] at h0
      symm
      rw [List.map_congr_left (g := id)]
      · simp
      · intro y hy
        have : p y ≠ true := fun e => h0 (by rw [← e]; exact List.mem_map_of_mem hy)
        simp [this]
    · have hx' : p x = false := by simpa using hx
      simp [hx'] at h
      obtain ⟨i, hi, rfl⟩ := h
      simp only [List.modify_succ_cons, List.map_cons, hx', Bool.false_eq_true, if_false]
      rw [map_modify_at p f l i hi (by simpa [hx'] using hc)]
theorem count_le_one {m : List (Int × Value)} (h : (m.map (·.1)).Nodup) (n : Int) : (m.map (fun x => x.1 == n)).count true ≤ 1 := by
  induction m with
  | nil => simp
  | cons x m ih =>
    simp only [List.map_cons, List.nodup_cons] at h
    have ih := ih h.2
    by_cases hx : x.1 = n
    · have h0 : (m.map (fun x => x.1 == n)).count true = 0 := by
        rw [List.count_eq_zero]
        intro hm
        obtain ⟨y, hy, he⟩ := List.mem_map.1 hm
        exact h.1 (List.mem_map.2 ⟨y, hy, by rw [hx]; simpa using he⟩)
      simp [hx, h0]
    · have : (x.1 == n) = false := by simpa using hx
      simpa [this] using ih
theorem mput_some {m : List (Int × Value)} {n : Int} {v u : Value} (h : mget m n = some u) : mput m n v = m.map (fun x => if x.1 == n then (n, v) else x) := by
  unfold mput
  rw [if_pos]
  have := mget_some_mem h
  simp only [List.any_eq_true]
  exact ⟨_, this, by simp⟩
theorem mput_none {m : List (Int × Value)} {n : Int} {v : Value} (h : mget m n = none) : mput m n v = m ++ [(n, v)] := by
  unfold mput
  rw [if_neg]
  simp only [List.any_eq_true, not_exists, not_and]
  intro x hx
  simpa using mget_none.1 h x hx
theorem entries_modify {es : Array MapEntry} {m : List (Int × Value)} (h : Entries es m) (hn : (m.map (·.1)).Nodup) {n : Int} {v : Value} {j : Nat} (hj : m.findIdx? (fun x => x.1 == n) = some j) :
    Entries (es.modify j fun e => { e with key := .int .i64 n, val := v }) (m.map (fun x => if x.1 == n then (n, v) else x)) := by
  have hm := map_modify_at (fun x : Int × Value => x.1 == n) (fun _ => (n, v)) m j hj (count_le_one hn n)
  rw [← hm]
  unfold Entries at *
  rw [Array.toList_modify]
  apply List.ext_getElem?
  intro i
  have hi := congrArg (fun l => l[i]?) h
  simp only [List.getElem?_map] at hi
  simp only [List.getElem?_map, List.getElem?_modify]
  by_cases e : j = i
  · subst e
    cases h1 : es.toList[j]? with
    | none => rw [h1] at hi; cases h2 : m[j]? with
      | none => simp
      | some y => rw [h2] at hi; simp at hi
    | some x => cases h2 : m[j]? with
      | none => rw [h1, h2] at hi; simp at hi
      | some y => simp
  · simp only [if_neg e]
    cases h1 : es.toList[i]? <;> cases h2 : m[i]? <;> simp_all
theorem mput_nodup {m : List (Int × Value)} (h : (m.map (·.1)).Nodup) (n : Int) (v : Value) : ((mput m n v).map (·.1)).Nodup := by
  cases hg : mget m n with
  | some u =>
    rw [mput_some hg]
    have : (m.map (fun x => if x.1 == n then (n, v) else x)).map (·.1) = m.map (·.1) := by
      rw [List.map_map]
      apply List.map_congr_left
      intro x _
      by_cases hx : x.1 = n
      · simp [hx]
      · simp [hx]
    rw [this]; exact h
  | none =>
    rw [mput_none hg, List.map_append, List.nodup_append]
    refine ⟨h, by simp, ?_⟩
    intro a ha b hb
    simp at hb
    subst hb
    obtain ⟨x, hx, rfl⟩ := List.mem_map.1 ha
    exact mget_none.1 hg x hx
theorem mdel_nodup {m : List (Int × Value)} (h : (m.map (·.1)).Nodup) (n : Int) : ((mdel m n).map (·.1)).Nodup := by
  unfold mdel
  exact List.Nodup.sublist (List.Sublist.map _ List.filter_sublist) h
theorem erase_map {α β : Type} (f : α → β) : ∀ (l : List α) (j : Nat), (l.map f).eraseIdx j = (l.eraseIdx j).map f
  | [], _ => by simp
  | _ :: _, 0 => by simp
  | x :: l, j + 1 => by simp [erase_map f l j]
theorem erase_filter {α : Type} (p : α → Bool) : ∀ (l : List α) (j : Nat), l.findIdx? p = some j → (l.map p).count true ≤ 1 → l.eraseIdx j = l.filter (fun x => !p x)
  | [], j, h, _ => by simp at h
  | x :: l, j, h, hc => by
    rw [List.findIdx?_cons] at h
    by_cases hx : p x = true
    · simp [hx] at h
      subst h
      simp only [List.map_cons, hx, List.count_cons_self] at hc
      have h0 : (l.map p).count true = 0 := by omega
      rw [List.count_eq_zero] at h0
      rw [List.eraseIdx_cons_zero, List.filter_cons_of_neg (by simp [hx])]
      symm
      rw [List.filter_eq_self]
      intro y hy
      have : p y ≠ true := fun e => h0 (by rw [← e]; exact List.mem_map_of_mem hy)
      simpa using this
    · have hx' : p x = false := by simpa using hx
      simp [hx'] at h
      obtain ⟨i, hi, rfl⟩ := h
      rw [List.eraseIdx_cons_succ, List.filter_cons_of_pos (by simp [hx']), erase_filter p l i hi (by simpa [hx'] using hc)]

section
variable {P : Program} {w : World} {b : Nat} {m : List (Int × Value)}
theorem turned_obj {b : Nat} {w : World} {o o' : Obj} (h : w.heap[b]? = some o) : Turned (fun k => k = b) w { w with heap := w.heap.setIfInBounds b o' } :=
  ⟨rfl, rfl, rfl, by simp, fun k _ hne => (MapKept.heap_set (o' := o') h).2 k hne⟩
theorem IMap.update (h : IMap w b m) {T K E : TypeId} (hT : P.underlying T = some (.map K E)) (hK : P.underlying K = some (.int .i64)) (n : Int) (v : Value) :
    ∃ w', (Instr.mapUpdate T (.map (some b)) (.int .i64 n) v).run P w = .ok () w' ∧ IMap w' b (mput m n v) ∧ Turned (fun k => k = b) w w' ∧ w'.heap.size = w.heap.size := by
  obtain ⟨⟨es, clock, h1, h2, h3, h4⟩, hn⟩ := h
  have hc : (Instr.checkKey false 10000 K (.int .i64 n)).run P w = .ok () w := MapKept.run_checkKey (k := .int .i64 n) hK (by simp [MapKept.IsKey]) _ 9999
  have hf := findNow_int n es.toList m 0 h2
  cases hg : mget m n with
  | none =>
    rw [findIdx_none hg] at hf
    refine ⟨{ w with heap := w.heap.setIfInBounds b (.map (es.push { key := .int .i64 n, val := v, born := clock }) (clock + 1)) }, ?_, ?_, turned_obj h1, by simp⟩
    · simp [Instr.mapUpdate, run_underlying hT, MapKept.run_getObj_map h1, hc, MapKept.run_findKey hK hf, Result.andThen, MapKept.run_setObj_map _ h1]
    · refine ⟨⟨_, _, (MapKept.heap_set h1).1, ?_, ?_, ?_⟩, mput_nodup hn n v⟩
      · rw [mput_none hg]; exact entries_push h2 n v clock
      · simp only [Array.toList_push, List.map_append, List.map_cons, List.map_nil, List.nodup_append]
        refine ⟨h3, by simp, ?_⟩
        intro a ha c hc
        simp at hc; subst hc
        obtain ⟨e, he, rfl⟩ := List.mem_map.1 ha
        have := h4 e he; omega
      · intro e he
        simp only [Array.toList_push, List.mem_append, List.mem_singleton] at he
        rcases he with he | rfl
        · have := h4 e he; omega
        · show clock < clock + 1; omega
  | some u =>
    obtain ⟨j, hj, hjl, hjm⟩ := findIdx_some hg
    rw [hj, hg] at hf
    obtain ⟨e, he, hek, _⟩ := entries_at h2 hjm
    have hbits : Instr.sameBits 10000 (.int .i64 n) (.int .i64 n) = true := by simp [Instr.sameBits]
    refine ⟨{ w with heap := w.heap.setIfInBounds b (.map (es.modify j fun e => { e with key := .int .i64 n, val := v }) clock) }, ?_, ?_, turned_obj h1, by simp⟩
    · simp [Instr.mapUpdate, run_underlying hT, MapKept.run_getObj_map h1, hc, MapKept.run_findKey hK hf, Result.andThen, MapKept.run_setObj_map _ h1, Instr.keyThatStays, he, hek, hbits]
    · refine ⟨⟨_, _, (MapKept.heap_set h1).1, ?_, ?_, ?_⟩, mput_nodup hn n v⟩
      · rw [mput_some hg]; exact entries_modify h2 hn hj
      · have : (es.modify j fun e => { e with key := .int .i64 n, val := v }).toList.map (·.born) = es.toList.map (·.born) := by
          rw [Array.toList_modify]
          apply List.ext_getElem?
          intro i
          simp only [List.getElem?_map, List.getElem?_modify]
          by_cases hji : j = i
          · subst hji; cases es.toList[j]? <;> simp
          · simp [if_neg hji]
        rw [this]; exact h3
      · intro x hx
        rw [Array.toList_modify] at hx
        obtain ⟨i, hi⟩ := List.mem_iff_getElem?.1 hx
        rw [List.getElem?_modify] at hi
        cases hy : es.toList[i]? with
        | none => rw [hy] at hi; simp at hi
        | some y =>
          rw [hy] at hi
          have := h4 y (List.mem_of_getElem? hy)
          by_cases hji : j = i
          · simp [hji] at hi; rw [← hi]; exact this
          · simp [hji] at hi; rw [← hi]; exact this
theorem IMap.remove (h : IMap w b m) {T K E : TypeId} (hT : P.underlying T = some (.map K E)) (hK : P.underlying K = some (.int .i64)) (n : Int) (ty : TypeId) :
    ∃ w', (Builtin.delete_ #[T, K] ty #[.map (some b), .int .i64 n]).run P w = .ok (.tuple #[]) w' ∧ IMap w' b (mdel m n) ∧ Turned (fun k => k = b) w w' ∧ w'.heap.size = w.heap.size := by
  obtain ⟨⟨es, clock, h1, h2, h3, h4⟩, hn⟩ := h
  have hc : (Instr.checkKey es.isEmpty 10000 K (.int .i64 n)).run P w = .ok () w := MapKept.run_checkKey (k := .int .i64 n) hK (by simp [MapKept.IsKey]) _ 9999
  have hf := findNow_int n es.toList m 0 h2
  cases hg : mget m n with
  | none =>
    rw [findIdx_none hg] at hf
    refine ⟨{ w with heap := w.heap.setIfInBounds b (.map es clock) }, ?_, ?_, turned_obj h1, by simp⟩
    · simp [Builtin.delete_, run_underlying hT, MapKept.run_getObj_map h1, hc, MapKept.run_findKey hK hf, Result.andThen, MapKept.run_setObj_map _ h1]
    · refine ⟨⟨_, _, (MapKept.heap_set h1).1, ?_, h3, h4⟩, mdel_nodup hn n⟩
      have : mdel m n = m := by
        unfold mdel; rw [List.filter_eq_self]
        intro x hx
        simpa using mget_none.1 hg x hx
      rw [this]; exact h2
  | some u =>
    obtain ⟨j, hj, hjl, hjm⟩ := findIdx_some hg
    rw [hj, hg] at hf
    have hjs : j < es.size := by rw [entries_length h2]; exact hjl
    refine ⟨{ w with heap := w.heap.setIfInBounds b (.map (es.eraseIdxIfInBounds j) clock) }, ?_, ?_, turned_obj h1, by simp⟩
    · simp [Builtin.delete_, run_underlying hT, MapKept.run_getObj_map h1, hc, MapKept.run_findKey hK hf, Result.andThen, MapKept.run_setObj_map _ h1]
    · have hl : (es.eraseIdxIfInBounds j).toList = es.toList.eraseIdx j := by simp
      refine ⟨⟨_, _, (MapKept.heap_set h1).1, ?_, ?_, ?_⟩, mdel_nodup hn n⟩
      · unfold Entries at *
        unfold mdel
        rw [← erase_filter _ m j hj (count_le_one hn n), hl, ← erase_map, ← erase_map, h2]
      · rw [hl, ← erase_map]; exact List.Nodup.sublist (List.eraseIdx_sublist ..) h3
      · rw [hl]; intro e he; exact h4 e (List.mem_of_mem_eraseIdx he)
theorem IMap.count (h : IMap w b m) {T K E : TypeId} (hT : P.underlying T = some (.map K E)) (ty : TypeId) : (Builtin.len_ #[T] ty #[.map (some b)]).run P w = .ok (.int .i64 m.length) w := by
  obtain ⟨⟨es, clock, h1, h2, _⟩, _⟩ := h
  simp [Builtin.len_, run_underlying hT, MapKept.run_getObj_map h1, Result.andThen, goInt, entries_length h2]
theorem IMap.cleared (h : IMap w b m) {T K E : TypeId} (hT : P.underlying T = some (.map K E)) (ty : TypeId) :
    ∃ w', (Builtin.clear_ #[T] ty #[.map (some b)]).run P w = .ok (.tuple #[]) w' ∧ IMap w' b [] ∧ Turned (fun k => k = b) w w' ∧ w'.heap.size = w.heap.size := by
  obtain ⟨⟨es, clock, h1, h2, h3, h4⟩, hn⟩ := h
  refine ⟨{ w with heap := w.heap.setIfInBounds b (.map #[] clock) }, ?_, ⟨⟨_, _, (MapKept.heap_set h1).1, rfl, by simp, by simp⟩, by simp⟩, turned_obj h1, by simp⟩
  simp [Builtin.clear_, run_underlying hT, MapKept.run_getObj_map h1, Result.andThen, MapKept.run_setObj_map _ h1]

section
variable {ops : Array Oper} {rest : List Oper} {o : Oper} {a : Act} {Q : Exit → Act → World → Prop}
theorem wpList_mput (hg : o.guard = none) (mo ko vo : Operand) (T : TypeId) (hop : o.op = Op.mapUpdate T mo ko vo) {K E : TypeId} (hT : P.underlying T = some (.map K E)) (hK : P.underlying K = some (.int .i64))
    (hm : a.eval mo = .map (some b)) (n : Int) (hk : a.eval ko = .int .i64 n) (v : Value) (hv : a.eval vo = v) (h : IMap w b m)
    (next : ∀ w', IMap w' b (mput m n v) → Turned (fun k => k = b) w w' → w'.heap.size = w.heap.size → wpList P ops Q rest (a.put o.dst undef) w') : wpList P ops Q (o :: rest) a w := by
  obtain ⟨w', hrun, h1, h2, h3⟩ := h.update hT hK n v
  refine wpList_skips hg (w' := w') ?_ (next w' h1 h2 h3)
  simp [execOp, hop, hm, hk, hv, hrun, Result.andThen]
theorem wpList_mdel (hg : o.guard = none) (mo ko : Operand) (T K : TypeId) (hop : o.op = Op.call { callee := Callee.builtin Builtin.delete, args := #[mo, ko], argTypes := #[T, K] }) {E : TypeId} (hT : P.underlying T = some (.map K E)) (hK : P.underlying K = some (.int .i64))
    (hm : a.eval mo = .map (some b)) (n : Int) (hk : a.eval ko = .int .i64 n) (h : IMap w b m)
    (next : ∀ w', IMap w' b (mdel m n) → Turned (fun k => k = b) w w' → w'.heap.size = w.heap.size → wpList P ops Q rest (a.put o.dst (.tuple #[])) w') : wpList P ops Q (o :: rest) a w := by
  obtain ⟨w', hrun, h1, h2, h3⟩ := h.remove hT hK n o.type
  refine wpList_value hg (w' := w') (v := .tuple #[]) ?_ (next w' h1 h2 h3)
  simp [execOp, hop, resolve, invoke, builtin, hm, hk, hrun, Result.andThen]
theorem wpList_mclear (hg : o.guard = none) (mo : Operand) (T : TypeId) (hop : o.op = Op.call { callee := Callee.builtin Builtin.clear, args := #[mo], argTypes := #[T] }) {K E : TypeId} (hT : P.underlying T = some (.map K E))
    (hm : a.eval mo = .map (some b)) (h : IMap w b m)
    (next : ∀ w', IMap w' b [] → Turned (fun k => k = b) w w' → w'.heap.size = w.heap.size → wpList P ops Q rest (a.put o.dst (.tuple #[])) w') : wpList P ops Q (o :: rest) a w := by
  obtain ⟨w', hrun, h1, h2, h3⟩ := h.cleared hT o.type
  refine wpList_value hg (w' := w') (v := .tuple #[]) ?_ (next w' h1 h2 h3)
  simp [execOp, hop, resolve, invoke, builtin, hm, hrun, Result.andThen]
end
end

end Go.Proofs.Ytliakkpmmmgmhaa
