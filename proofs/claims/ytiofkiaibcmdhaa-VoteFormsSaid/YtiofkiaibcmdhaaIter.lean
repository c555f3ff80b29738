import Derived.Test.YtiofkiaibcmdhaaRep
import Derived.RangeFuncSeq
import Derived.OwnWalkIn
import Derived.Sort.MapsRangeIn
namespace Go.Proofs.Ytiofkiaibcmdhaa
open Go Go.RowKit

/-- An iterator in block 'it' over the map in block 'r', the entries of these numbers having come. -/
structure IterAt (w : World) (r it : Nat) (es : List (Int × Value)) (seen : List Nat) : Prop where
  map : w.heap[r]? = some (mapObj es)
  iter : w.heap[it]? = some (.mapIter (some r) es.length seen.toArray es.length)
  nodup : seen.Nodup
  lt : ∀ i ∈ seen, i < es.length

theorem mem_ents {es : List (Int × Value)} {e : MapEntry} (h : e ∈ ents 0 es) : ∃ i p, es[i]? = some p ∧ e = { key := .int .i64 p.1, val := p.2, born := i } := by
  obtain ⟨i, hi⟩ := List.getElem?_of_mem h
  rw [ents_get] at hi
  cases hp : es[i]? with
  | none => rw [hp] at hi; simp at hi
  | some p => rw [hp] at hi; simp at hi; exact ⟨i, p, hp, hi.symm⟩

theorem run_getObj_of {P : Program} {w : World} {r : Nat} {o : Obj} (h : w.heap[r]? = some o) (hn : ∀ c e f, o ≠ .cells c e f) : (getObj r).run P w = .ok o w := by
  unfold getObj
  cases o <;> first | exact absurd rfl (hn _ _ _) | simp [Sem.run, h]
theorem run_setObj_of {P : Program} {w : World} {r : Nat} {o : Obj} (x : Obj) (h : w.heap[r]? = some o) (hn : ∀ c e f, o ≠ .cells c e f) : (setObj r x).run P w = .ok () (putB w r x) := by
  unfold setObj putB
  cases o <;> first | exact absurd rfl (hn _ _ _) | simp [Sem.run, h]

theorem run_range_obj {P : Program} {w : World} {t K E : TypeId} {r : Nat} {es : List (Int × Value)} (ht : P.underlying t = some (.map K E)) (hr : w.heap[r]? = some (mapObj es)) :
    (Instr.range t (.map (some r))).run P w = .ok (.pointer (some ⟨w.heap.size, 0, none⟩)) (w.alloc (.mapIter (some r) es.length #[] es.length)) := by
  unfold Instr.range
  have hg := run_getObj_of (P := P) hr (by intros; simp [mapObj])
  simp only [Sem.run_bind, run_underlying ht, Result.andThen_ok, hg, mapObj, Sem.run_pure, run_newObj]
  rfl

theorem IterAt.start {w : World} {r : Nat} {es : List (Int × Value)} (hr : w.heap[r]? = some (mapObj es)) : IterAt (w.alloc (.mapIter (some r) es.length #[] es.length)) r w.heap.size es [] :=
  ⟨(heap_alloc_old w _ (Array.getElem?_eq_some_iff.1 hr).1).trans hr, heap_alloc_new w _, List.nodup_nil, by simp⟩

theorem run_entry_obj {P : Program} {w : World} {r it : Nat} {es : List (Int × Value)} {seen : List Nat} {i : Nat} {p : Int × Value} (h : IterAt w r it es (seen ++ [i])) (hp : es[i]? = some p) :
    (Instr.entry (.pointer (some ⟨it, 0, none⟩))).run P w = .ok (.tuple #[.int .i64 p.1, p.2]) w := by
  have hf : (ents 0 es).toArray.find? (fun x => x.born == i) = some { key := .int .i64 p.1, val := p.2, born := i } := by
    rw [List.find?_toArray, List.find?_eq_some_iff_getElem]
    have hi : i < es.length := (List.getElem?_eq_some_iff.1 hp).1
    have hg : ∀ (j : Nat) (hj : j < (ents 0 es).length), (ents 0 es)[j].born = j := fun j hj => by
      have := ents_get 0 es j
      rw [List.getElem?_eq_getElem hj] at this
      cases hq : es[j]? with
      | none => rw [hq] at this; simp at this
      | some q => rw [hq] at this; simp at this; rw [this]
    refine ⟨by simp, i, by rw [ents_length]; exact hi, ?_, fun j hj => ?_⟩
    · have := ents_get 0 es i
      rw [List.getElem?_eq_getElem (by rw [ents_length]; exact hi), hp] at this
      simpa using this
    · rw [hg j (by rw [ents_length]; omega)]
      simp; omega
  unfold Instr.entry
  simp [run_getObj_of (P := P) h.iter (by intros; simp), run_getObj_of (P := P) h.map (by intros; simp [mapObj]), mapObj, hf]

theorem run_next_obj {P : Program} {w : World} {r it : Nat} {es : List (Int × Value)} {seen : List Nat} (h : IterAt w r it es seen) (ty : TypeId) :
    ((∀ i, i < es.length → i ∈ seen) ∧ (Instr.next (.pointer (some ⟨it, 0, none⟩)) false ty).run P w = .ok (.tuple #[.bool false]) w) ∨
    ∃ i p w', es[i]? = some p ∧ i ∉ seen ∧ (Instr.next (.pointer (some ⟨it, 0, none⟩)) false ty).run P w = .ok (.tuple #[.bool true, .int .i64 p.1, p.2]) w' ∧ IterAt w' r it es (seen ++ [i]) ∧
      w.grownBy w' (some it) ∧ w'.heap.size = w.heap.size := by
  have hrit : r ≠ it := fun e => by have h1 := h.map; rw [e, h.iter] at h1; simp [mapObj] at h1
  generalize hL : (ents 0 es).toArray.filter (fun e => !seen.toArray.contains e.born) = L
  have hold : L.filter (fun e => decide (e.born < es.length)) = L := by
    rw [Array.filter_eq_self]
    intro e he
    rw [← hL] at he
    obtain ⟨i, p, hp, rfl⟩ := mem_ents (by simpa using (Array.mem_filter.1 he).1)
    simpa using (List.getElem?_eq_some_iff.1 hp).1
  have hnew : L.filter (fun e => decide (e.born ≥ es.length)) = #[] := by
    rw [Array.filter_eq_empty_iff]
    intro e he
    rw [← hL] at he
    obtain ⟨i, p, hp, rfl⟩ := mem_ents (by simpa using (Array.mem_filter.1 he).1)
    have := (List.getElem?_eq_some_iff.1 hp).1
    simp; omega
  have hgone : (!seen.toArray.isEmpty && !(ents 0 es).toArray.isEmpty && (ents 0 es).toArray.all fun x => decide (x.born ≥ es.length)) = false := by
    cases es with
    | nil => simp [ents]
    | cons p es => simp [ents]
  have hpick : ∀ m : Nat, 0 < m → ∃ j w1, j < m ∧ (choose (.mapNext m)).run P w = .ok j w1 ∧ w1.heap = w.heap ∧ w1.os = w.os ∧ w1.tape = w.tape ∧ w1.output = w.output := by
    intro m hm
    by_cases hf : m ≤ 1
    · exact ⟨0, w, hm, by simp [choose, Sem.run, Question.forced, hf], rfl, rfl, rfl, rfl⟩
    · refine ⟨w.tape w.drawn (.mapNext m) % m, { w with drawn := w.drawn + 1 }, Nat.mod_lt _ hm, ?_, rfl, rfl, rfl, rfl⟩
      unfold choose
      simp only [Sem.run, Question.forced, hf, decide_false, Bool.false_eq_true, if_false, Question.cut]
  by_cases hem : L.isEmpty = true
  · refine .inl ⟨fun i hi => ?_, ?_⟩
    · have hLe : L = #[] := by simpa using hem
      rw [hLe, Array.filter_eq_empty_iff] at hL
      obtain ⟨p, hp⟩ : ∃ p, es[i]? = some p := ⟨_, List.getElem?_eq_getElem hi⟩
      have hmem : (⟨.int .i64 p.1, p.2, i⟩ : MapEntry) ∈ (ents 0 es).toArray := by
        have := ents_get 0 es i
        rw [hp] at this
        simp only [List.mem_toArray]
        exact List.mem_of_getElem? (by simpa using this)
      have := hL _ hmem
      simpa using this
    · have hLe : L = #[] := by simpa using hem
      unfold Instr.next
      simp only [Sem.run_bind, run_getObj_of (P := P) h.iter (by intros; simp), Result.andThen_ok, run_getObj_of (P := P) h.map (by intros; simp [mapObj]), mapObj, hgone, Bool.false_eq_true, if_false, hL, hold, hnew, Array.append_empty]
      subst hLe
      simp [Question.forced]
  · have hsz : 0 < L.size := by
      rcases Nat.eq_zero_or_pos L.size with h0 | h0
      · exact absurd (by simpa using h0) hem
      · exact h0
    obtain ⟨j, w1, hj, hch, hh, ho, ht, hou⟩ := hpick L.size hsz
    have hmem : L[j] ∈ L := Array.getElem_mem hj
    have hLj : L[j]? = some L[j] := Array.getElem?_eq_getElem hj
    generalize L[j] = x at hmem hLj
    rw [← hL] at hmem
    obtain ⟨hm1, hm2⟩ := Array.mem_filter.1 hmem
    obtain ⟨i, p, hp, he⟩ := mem_ents (by simpa using hm1)
    have hi : i < es.length := (List.getElem?_eq_some_iff.1 hp).1
    have hns : i ∉ seen := by
      rw [he] at hm2
      simpa using hm2
    have hitl : it < w.heap.size := (Array.getElem?_eq_some_iff.1 h.iter).1
    have hit1 : w1.heap[it]? = some (.mapIter (some r) es.length seen.toArray es.length) := by rw [hh]; exact h.iter
    refine .inr ⟨i, p, putB w1 it (.mapIter (some r) es.length (seen ++ [i]).toArray es.length), hp, hns, ?_, ⟨?_, ?_, ?_, ?_⟩, ⟨ho, ht, hou, by simp [putB, hh], fun k hk hne => ?_⟩, by simp [putB, hh]⟩
    · have hemf : L.isEmpty = false := by simpa using hem
      unfold Instr.next
      simp only [Sem.run_bind, run_getObj_of (P := P) h.iter (by intros; simp), Result.andThen_ok, run_getObj_of (P := P) h.map (by intros; simp [mapObj]), mapObj, hgone, Bool.false_eq_true, if_false, hL, hold, hnew, Array.append_empty, hemf, Array.empty_append, Array.size_map, hch, Array.getElem?_map, hLj, Option.map_some, he]
      simp only [run_setObj_of (P := P) _ hit1 (by intros; simp), Result.andThen_ok, Sem.run_pure]
      simp
    · show (w1.heap.setIfInBounds it _)[r]? = _
      rw [Array.getElem?_setIfInBounds_ne (fun e => hrit e.symm), hh]
      exact h.map
    · exact putB_same (by rw [hh]; exact hitl)
    · rw [List.nodup_append]
      exact ⟨h.nodup, by simp, fun a ha b hb => by simp at hb; subst hb; exact fun e => hns (e ▸ ha)⟩
    · intro k hk
      rcases List.mem_append.1 hk with hk | hk
      · exact h.lt k hk
      · simp at hk; omega
    · show (w1.heap.setIfInBounds it _)[k]? = _
      rw [Array.getElem?_setIfInBounds_ne (fun e => hne (by rw [e])), hh]

section
variable {P : Program} {ops : Array Oper} {rest : List Oper} {o : Oper} {a : Act} {Q : Exit → Act → World → Prop} {w : World}

/-- 'range m', at the operation. -/
theorem wpList_range_obj (hg : o.guard = none) (m : Operand) (t : TypeId) (hop : o.op = .range t m) {K E : TypeId} (ht : P.underlying t = some (.map K E)) (r : Nat) (es : List (Int × Value)) (hm : a.eval m = .map (some r)) (hr : w.heap[r]? = some (mapObj es))
    (h : ∀ w', IterAt w' r w.heap.size es [] → Ext w w' → w'.heap.size = w.heap.size + 1 → wpList P ops Q rest (a.put o.dst (.pointer (some ⟨w.heap.size, 0, none⟩))) w') : wpList P ops Q (o :: rest) a w := by
  refine wpList_plain hg fun K' hK' => ?_
  unfold Oper.wp
  simp [execOp, hop, hm, run_range_obj ht hr, Result.andThen]
  exact hK' _ _ (h _ (IterAt.start hr) (ext_of_grown (World.grownBy_alloc w _ none)) (by simp))

/-- The next entry, at the operation. -/
theorem wpList_next_obj (hg : o.guard = none) (it : Operand) (hop : o.op = .next it false) (r ib : Nat) (es : List (Int × Value)) (seen : List Nat) (hit : a.eval it = .pointer (some ⟨ib, 0, none⟩)) (hI : IterAt w r ib es seen)
    (hDone : (∀ i, i < es.length → i ∈ seen) → wpList P ops Q rest (a.put o.dst (.tuple #[.bool false])) w)
    (hMore : ∀ i p w', es[i]? = some p → i ∉ seen → IterAt w' r ib es (seen ++ [i]) → w.grownBy w' (some ib) → w'.heap.size = w.heap.size → (Instr.entry (.pointer (some ⟨ib, 0, none⟩))).run P w' = .ok (.tuple #[.int .i64 p.1, p.2]) w' →
      wpList P ops Q rest (a.put o.dst (.tuple #[.bool true, .int .i64 p.1, p.2])) w') : wpList P ops Q (o :: rest) a w := by
  refine wpList_plain hg fun K' hK' => ?_
  unfold Oper.wp
  rcases run_next_obj (P := P) hI o.type with ⟨h1, h2⟩ | ⟨i, p, w', h1, h2, h3, h4, h5, h6⟩
  · simp [execOp, hop, hit, h2, Result.andThen]
    exact hK' _ _ (hDone h1)
  · simp [execOp, hop, hit, h3, Result.andThen]
    exact hK' _ _ (hMore i p w' h1 h2 h4 h5 h6 (run_entry_obj h4 h1))

variable {F : Fence} {n : Nat}
theorem wpListIn_range_obj (hg : o.guard = none) (m : Operand) (t : TypeId) (hop : o.op = .range t m) {K E : TypeId} (ht : P.underlying t = some (.map K E)) (r : Nat) (es : List (Int × Value)) (hm : a.eval m = .map (some r)) (hr : w.heap[r]? = some (mapObj es))
    (h : ∀ w', IterAt w' r w.heap.size es [] → w.grownBy w' none → w'.heap.size = w.heap.size + 1 → wpListIn F n P ops Q rest (a.put o.dst (.pointer (some ⟨w.heap.size, 0, none⟩))) w') : wpListIn F n P ops Q (o :: rest) a w := by
  refine wpListIn_plain hg fun K' hK' => ?_
  unfold Oper.wpIn
  refine ⟨by simp [Oper.about, hop], ?_⟩
  rw [Oper.semAt_plain F _ _ (by rw [hop]; intro c hc'; cases hc')]
  simp [execOp, hop, hm, run_range_obj ht hr, Result.andThen]
  exact hK' _ _ (h _ (IterAt.start hr) (World.grownBy_alloc w _ none) (by simp))

theorem wpListIn_next_obj (hg : o.guard = none) (it : Operand) (hop : o.op = .next it false) (r ib : Nat) (es : List (Int × Value)) (seen : List Nat) (hit : a.eval it = .pointer (some ⟨ib, 0, none⟩)) (hI : IterAt w r ib es seen)
    (hDone : (∀ i, i < es.length → i ∈ seen) → wpListIn F n P ops Q rest (a.put o.dst (.tuple #[.bool false])) w)
    (hMore : ∀ i p w', es[i]? = some p → i ∉ seen → IterAt w' r ib es (seen ++ [i]) → w.grownBy w' (some ib) → w'.heap.size = w.heap.size → (Instr.entry (.pointer (some ⟨ib, 0, none⟩))).run P w' = .ok (.tuple #[.int .i64 p.1, p.2]) w' →
      wpListIn F n P ops Q rest (a.put o.dst (.tuple #[.bool true, .int .i64 p.1, p.2])) w') : wpListIn F n P ops Q (o :: rest) a w := by
  refine wpListIn_plain hg fun K' hK' => ?_
  unfold Oper.wpIn
  refine ⟨by simp [Oper.about, hop], ?_⟩
  rw [Oper.semAt_plain F _ _ (by rw [hop]; intro c hc'; cases hc')]
  rcases run_next_obj (P := P) hI o.type with ⟨h1, h2⟩ | ⟨i, p, w', h1, h2, h3, h4, h5, h6⟩
  · simp [execOp, hop, hit, h2, Result.andThen]
    exact hK' _ _ (hDone h1)
  · simp [execOp, hop, hit, h3, Result.andThen]
    exact hK' _ _ (hMore i p w' h1 h2 h4 h5 h6 (run_entry_obj h4 h1))
end

theorem IterAt.kept {w w' : World} {r it : Nat} {es : List (Int × Value)} {seen : List Nat} (h : IterAt w r it es seen) (hr : w'.heap[r]? = w.heap[r]?) (hi : w'.heap[it]? = w.heap[it]?) : IterAt w' r it es seen :=
  ⟨hr.trans h.map, hi.trans h.iter, h.nodup, h.lt⟩

theorem seen_perm {n : Nat} {seen : List Nat} (hn : seen.Nodup) (hlt : ∀ i ∈ seen, i < n) (hall : ∀ i, i < n → i ∈ seen) : seen.Perm (List.range n) := by
  rw [List.perm_ext_iff_of_nodup hn List.nodup_range]
  intro i
  simp only [List.mem_range]
  exact ⟨hlt i, hall i⟩

theorem map_getD_range {α β : Type} (l : List α) (d : α) (f : α → β) : (List.range l.length).map (fun i => f (l.getD i d)) = l.map f := by
  apply List.ext_getElem?
  intro i
  simp only [List.getElem?_map]
  by_cases hi : i < l.length
  · simp [List.getD, hi]
  · rw [List.getElem?_eq_none (by simpa using hi), List.getElem?_eq_none (by simpa using hi)]
    rfl

end Go.Proofs.Ytiofkiaibcmdhaa
