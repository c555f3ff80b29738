import Derived.Test.YtiofkiaibcmdhaaW1
namespace Go.Proofs.Ytiofkiaibcmdhaa
open Go Go.RowKit

theorem mapObj_nil : (Obj.map #[] 0) = mapObj [] := rfl

/-- What 'set' leaves. -/
def SetPost (m : Nat) (es : List (Int × Value)) (vs : List (Int × Told)) (view who : Int) (l : Bytes) (w : World) (e : Ending) (w' : World) : Prop :=
  if (at2 vs view who).isSome then e = .returned (.bool false) ∧ Ext w w'
  else e = .returned (.bool true) ∧ Turn (m :: blocksOf es) w w' ∧ ∃ es', w'.heap[m]? = some (mapObj es') ∧ RelL (ViewR w') es' (set2 vs view who l) ∧ (m :: blocksOf es').Nodup ∧ ∀ k ∈ blocksOf es', k ∈ blocksOf es ∨ w.heap.size ≤ k

/-- One view's entry anew, its block as it was. -/
theorem relViews_set {w w' : World} {es : List (Int × Value)} {vs : List (Int × Told)} {m r : Nat} {view : Int} {t : Told} (h : RelL (ViewR w) es vs) (hv : getV es view = some (.map (some r))) (hnd : (m :: blocksOf es).Nodup)
    (hk : ∀ v y, (ViewR w v y ∧ v ≠ .map (some r)) → ViewR w' v y) (ht : ViewR w' (.map (some r)) t) : RelL (ViewR w') es (setV vs view t) := by
  replace hnd := (List.nodup_cons.1 hnd).2
  clear m
  induction es generalizing vs with
  | nil => cases hv
  | cons e es ih => cases vs with
    | nil => exact h.elim
    | cons p vs =>
      obtain ⟨h1, h2, h3⟩ := h
      simp only [getV] at hv
      simp only [setV]
      have h2c := h2
      obtain ⟨r2, hr2, _⟩ := h2c
      have hb : blockOf e.2 = some r2 := by rw [hr2]; rfl
      simp only [blocksOf, List.filterMap_cons, hb, List.nodup_cons] at hnd
      by_cases hx : e.1 = view
      · rw [if_pos hx] at hv
        rw [if_pos (h1 ▸ hx)]
        simp only [Option.some.injEq] at hv
        refine ⟨hx, by rw [hv]; exact ht, h3.mono fun k v y hm hy => hk v y ⟨hy, fun e' => ?_⟩⟩
        subst e'
        rw [hv] at hr2
        cases hr2
        exact hnd.1 (mem_blocksOf hm)
      · rw [if_neg hx] at hv
        rw [if_neg (h1 ▸ hx)]
        refine ⟨h1, hk _ _ ⟨h2, fun e' => ?_⟩, ih h3 hv hnd.2⟩
        rw [e'] at hr2
        cases hr2
        exact hnd.1 (mem_blocksOf (getV_mem hv))

set_option maxRecDepth 100000 in
set_option maxHeartbeats 1000000 in
/-- set: the view is there, the peer isn't. -/
theorem set_more (m r : Nat) (es er : List (Int × Value)) (view who : Int) (a : Option Addr) (n c : Nat) (l : Bytes) (w : World) (hm : w.heap[m]? = some (mapObj es)) (hv : getV es view = some (.map (some r))) (hr : w.heap[r]? = some (mapObj er)) (hw : getV er who = none)
    (hn : l.length = n) (hb : BS w a l) (hlen : l.length ≤ 140737488355328) :
    Calls Try.prog 87 #[.map (some m), .int .i64 view, .int .i64 who, .slice a n c] w fun e w' => e = .returned (.bool true) ∧ ∃ w1 a' c', Ext w w1 ∧ BB w1 a' l ∧ w'.heap[r]? = some (mapObj (setV er who (.slice a' l.length c'))) ∧ Turn [r] w1 w' := by
  have k1 : ∀ W : World, W.heap[m]? = some (mapObj es) → Sem.run Try.prog (Instr.lookup 105 (.map (some m)) (.int .i64 view) false) W = .ok (.map (some r)) W := fun W hW => by
    have := run_lookup_obj (P := Try.prog) false view Try.underlying105 Try.underlying3 (Try.zeroValue108 W) hW
    simpa [hv] using this
  have k2 : ∀ W : World, W.heap[r]? = some (mapObj er) → Sem.run Try.prog (Instr.lookup 108 (.map (some r)) (.int .i64 who) true) W = .ok (.tuple #[.slice none 0 0, .bool false]) W := fun W hW => by
    have := run_lookup_obj (P := Try.prog) true who Try.underlying108 Try.underlying3 (Try.zeroValue29 W) hW
    simpa [hw] using this
  have q1 := k1 w hm
  have q2 := k2 w hr
  have q3 : ∀ x, _ := fun x => k1 (later w x) (later_heap hm)
  have q4 := fun w' => run_eql_map_nil (P := Try.prog) w' 108 3 29 (some r) Try.underlying108
  clear k1 k2
  go_enter Try.func87, Try.ntmps87
  go_wp2_with fail
  refine wp_region_segs (by kernel_rfl) [([0, 1, 2, 3, 4], 5)] [] [6] (by decide +kernel) (fun c a d u w h => by cases d <;> exact h) ?_
  simp only [pickO, pickS, nthO, wpSegs]
  repeat (go_big_quiet_step (fail))
  refine wpQuiet_nil ?_
  refine live_step rfl (fun K hK => ?_)
  go_simp
  refine (clone_any a n c l _ hn (hb.ext (Ext.drew w)) hlen).mono ?_
  rintro e w1 ⟨a', c', rfl, hb', hE⟩
  refine hK _ w1 w1 hE (Ext.refl _) ?_
  clear hK K
  refine wpQuiet_nil ?_
  have hr1 := ((Ext.drew w).trans hE).heap hr
  go_wp2_with (at_mapUpdate; refine wpList_update_obj rfl rfl _ _ _ 108 rfl Try.underlying108 Try.underlying3 r er who _ rfl rfl rfl hr1 ?_; intro w2 hr2 hT)
  go_ret
  exact ⟨rfl, w1, a', c', (Ext.drew w).trans hE, hb', hr2, hT⟩

set_option maxRecDepth 100000 in
set_option maxHeartbeats 1000000 in
/-- set: the peer is there already. -/
theorem set_old (m r : Nat) (es er : List (Int × Value)) (view who : Int) (a : Option Addr) (n c : Nat) (u : Value) (w : World) (hm : w.heap[m]? = some (mapObj es)) (hv : getV es view = some (.map (some r))) (hr : w.heap[r]? = some (mapObj er)) (hw : getV er who = some u) :
    Calls Try.prog 87 #[.map (some m), .int .i64 view, .int .i64 who, .slice a n c] w fun e w' => e = .returned (.bool false) ∧ w = w' := by
  have k1 : Sem.run Try.prog (Instr.lookup 105 (.map (some m)) (.int .i64 view) false) w = .ok (.map (some r)) w := by
    have := run_lookup_obj (P := Try.prog) false view Try.underlying105 Try.underlying3 (Try.zeroValue108 w) hm
    simpa [hv] using this
  have k2 : Sem.run Try.prog (Instr.lookup 108 (.map (some r)) (.int .i64 who) true) w = .ok (.tuple #[u, .bool true]) w := by
    have := run_lookup_obj (P := Try.prog) true who Try.underlying108 Try.underlying3 (Try.zeroValue29 w) hr
    simpa [hw] using this
  clear hv hw hm hr
  go_enter Try.func87, Try.ntmps87
  go_wp2
  go_ret
  exact ⟨rfl, rfl⟩

set_option maxRecDepth 100000 in
set_option maxHeartbeats 1000000 in
/-- set: the view isn't there. -/
theorem set_new (m : Nat) (es : List (Int × Value)) (view who : Int) (a : Option Addr) (n c : Nat) (l : Bytes) (w : World) (hm : w.heap[m]? = some (mapObj es)) (hv : getV es view = none)
    (hn : l.length = n) (hb : ∀ w', Turn [m] w w' → BS w' a l) (hlen : l.length ≤ 140737488355328) :
    Calls Try.prog 87 #[.map (some m), .int .i64 view, .int .i64 who, .slice a n c] w fun e w' => e = .returned (.bool true) ∧ ∃ w1 w2 a' c', Turn [m] w w1 ∧ w1.heap[m]? = some (mapObj (setV es view (.map (some w.heap.size)))) ∧ w1.heap[w.heap.size]? = some (mapObj []) ∧
      Ext w1 w2 ∧ BB w2 a' l ∧ w'.heap[w.heap.size]? = some (mapObj [(who, .slice a' l.length c')]) ∧ Turn [w.heap.size] w2 w' := by
  have hlt : m < w.heap.size := (Array.getElem?_eq_some_iff.1 hm).1
  have k1 : ∀ (W : World) (xs : List (Int × Value)), W.heap[m]? = some (mapObj xs) → Sem.run Try.prog (Instr.lookup 105 (.map (some m)) (.int .i64 view) false) W = .ok ((getV xs view).getD (.map none)) W := fun W xs hW => by
    have := run_lookup_obj (P := Try.prog) false view Try.underlying105 Try.underlying3 (Try.zeroValue108 W) hW
    simpa using this
  have q1 : Sem.run Try.prog (Instr.lookup 105 (.map (some m)) (.int .i64 view) false) w = .ok (.map none) w := by
    have := k1 w es hm
    simpa [hv] using this
  have q2 : Sem.run Try.prog (Instr.lookup 108 (.map none) (.int .i64 who) true) w = .ok (.tuple #[.slice none 0 0, .bool false]) w := by
    have := run_lookup_nilmap (P := Try.prog) (w := w) true who Try.underlying108 Try.underlying3 (Try.zeroValue29 w)
    simpa using this
  have q4 := fun w' => run_eql_map_nil (P := Try.prog) w' 108 3 29 none Try.underlying108
  have hmm := @run_makeMap Try.prog
  have hm0 : (w.alloc (.map #[] 0)).heap[m]? = some (mapObj es) := (heap_alloc_old w _ hlt).trans hm
  go_enter Try.func87, Try.ntmps87
  go_wp2_with (at_mapUpdate; refine wpList_update_obj rfl rfl _ _ _ 105 rfl Try.underlying105 Try.underlying3 m es view (.map (some w.heap.size)) rfl rfl rfl hm0 ?_; intro w1 hm1 hT)
  have hT1 : Turn [m] w w1 := ((ext_of_grown (World.grownBy_alloc w (.map #[] 0) none)).turn [m]).trans hT (fun x hx => .inl hx)
  have hr1 : w1.heap[w.heap.size]? = some (mapObj []) := hT.block _ (by simp; omega) _ (heap_alloc_new w _)
  have hg : getV (setV es view (.map (some w.heap.size))) view = some (.map (some w.heap.size)) := by rw [getV_setV]; simp
  have q3 : ∀ x, Sem.run Try.prog (Instr.lookup 105 (.map (some m)) (.int .i64 view) false) (later w1 x) = .ok (.map (some w.heap.size)) (later w1 x) := fun x => by
    have := k1 (later w1 x) _ (later_heap hm1)
    simpa [hg] using this
  clear k1 q1 q2 q4
  refine wp_region_segs (by kernel_rfl) [([0, 1, 2, 3, 4], 5)] [] [6] (by decide +kernel) (fun c a d u w h => by cases d <;> exact h) ?_
  simp only [pickO, pickS, nthO, wpSegs]
  repeat (go_big_quiet_step (fail))
  refine wpQuiet_nil ?_
  refine live_step rfl (fun K hK => ?_)
  go_simp
  refine (clone_any a n c l _ hn ((hb w1 hT1).ext (Ext.drew w1)) hlen).mono ?_
  rintro e w2 ⟨a', c', rfl, hb', hE⟩
  refine hK _ w2 w2 hE (Ext.refl _) ?_
  clear hK K
  refine wpQuiet_nil ?_
  have hr2 := ((Ext.drew w1).trans hE).heap hr1
  go_wp2_with (at_mapUpdate; refine wpList_update_obj rfl rfl _ _ _ 108 rfl Try.underlying108 Try.underlying3 w.heap.size [] who _ rfl rfl rfl hr2 ?_; intro w3 hr3 hT3)
  go_ret
  exact ⟨rfl, w1, w2, a', c', hT1, hm1, hr1, (Ext.drew w1).trans hE, hb', hr3, hT3⟩

/-- **set.** -/
theorem set_any (m : Nat) (es : List (Int × Value)) (vs : List (Int × Told)) (view who : Int) (a : Option Addr) (n c : Nat) (l : Bytes) (w : World) (hm : w.heap[m]? = some (mapObj es)) (hR : RelL (ViewR w) es vs) (hnd : (m :: blocksOf es).Nodup)
    (hn : l.length = n) (hb : BS w a l) (hbm : ∀ p, a = some p → l ≠ [] → p.block ≠ m) (hlen : l.length ≤ 140737488355328) :
    Calls Try.prog 87 #[.map (some m), .int .i64 view, .int .i64 who, .slice a n c] w (SetPost m es vs view who l w) := by
  have hV : ViewsAt w m (blocksOf es) vs := ⟨es, hm, hR, rfl⟩
  have hlt := hV.lt
  have hnb := hV.noByte
  have hmlt : m < w.heap.size := hlt m (by simp)
  rcases hR.get view with ⟨h1, h2⟩ | ⟨v, t, h1, h2, ⟨r, rfl, er, hr, hRr⟩, hmem⟩
  · refine (set_new m es view who a n c l w hm h1 hn ?_ hlen).mono ?_
    · intro w' hT
      refine hb.of_block fun p hp hl => ?_
      subst hp
      obtain ⟨o, ho⟩ : ∃ o, w.heap[p.block]? = some o := ⟨_, Array.getElem?_eq_getElem (hb.lt hl)⟩
      rw [ho]
      exact hT.block _ (by simpa using hbm p rfl hl) _ ho
    · rintro e w' ⟨rfl, w1, w2, a', c', hT1, hm1, hr1, hE, hbb, hr', hT2⟩
      have hat : at2 vs view who = none := by simp [at2, h2, getV]
      have hse : set2 vs view who l = setV vs view [(who, l)] := by simp [set2, h2, setV]
      unfold SetPost
      rw [hat, if_neg (by simp)]
      have hw12 : Turn (m :: blocksOf es) w w2 := (hT1.trans (hE.turn []) (by simp)).mono (by simp)
      have hm2 : w2.heap[m]? = some (mapObj (setV es view (.map (some w.heap.size)))) := hE.heap hm1
      have hm' := hT2.block m (by simp; omega) _ hm2
      have hnb2 : NoByte w2 [w.heap.size] := by
        intro k hk cs fz
        simp only [List.mem_singleton] at hk
        subst hk
        rw [hE.heap hr1]; simp [mapObj]
      refine ⟨rfl, hw12.trans hT2 (by simp), setV es view (.map (some w.heap.size)), hm', ?_, ?_, ?_⟩
      · rw [hse]
        refine RelL.set (R := ViewR w') ?_ ⟨_, rfl, _, hr', ⟨rfl, ⟨a', c', rfl, hbb.turn hT2 hnb2⟩, trivial⟩⟩
        have hTT : Turn [m] w w2 := hT1.trans (hE.turn []) (by simp)
        refine (hR.views_turn hTT ?_ ?_).views_turn hT2 hnb2 ?_
        · intro k hk; exact hnb k (by simp at hk; simp [hk])
        · intro r hr he
          simp only [List.mem_singleton] at he
          subst he
          exact (List.nodup_cons.1 hnd).1 hr
        · intro r hr he
          simp only [List.mem_singleton] at he
          have := hlt r (by simp [hr])
          omega
      · rw [blocksOf_setV h1]
        rw [← List.cons_append, List.nodup_append]
        refine ⟨hnd, by simp, fun x hx y hy => ?_⟩
        simp only [List.mem_singleton] at hy
        have := hlt x hx
        omega
      · intro k hk
        rw [blocksOf_setV h1, List.mem_append] at hk
        rcases hk with hk | hk
        · exact .inl hk
        · exact .inr (by simp at hk; omega)
  · have hrm : r ∈ blocksOf es := mem_blocksOf hmem
    have hrne : r ≠ m := fun e => (List.nodup_cons.1 hnd).1 (e ▸ hrm)
    rcases hRr.get who with ⟨h3, h4⟩ | ⟨u, x, h3, h4, _, _⟩
    · refine (set_more m r es er view who a n c l w hm h1 hr h3 hn hb hlen).mono ?_
      rintro e w' ⟨rfl, w1, a', c', hE, hbb, hr', hT⟩
      have hat : at2 vs view who = none := by simp [at2, h2, h4]
      have hse : set2 vs view who l = setV vs view (setV t who l) := by simp [set2, h2]
      unfold SetPost
      rw [hat, if_neg (by simp)]
      have hTw : Turn [r] w w' := (hE.turn [r]).trans hT (fun x hx => .inl hx)
      have hnbr : NoByte w [r] := fun k hk => hnb k (by simp at hk; simp [hk, hrm])
      have hnb1 : NoByte w1 [r] := by
        intro k hk cs fz
        simp only [List.mem_singleton] at hk
        subst hk
        rw [hE.heap hr]; simp [mapObj]
      refine ⟨rfl, hTw.mono (by simp [hrm]), es, hTw.block m (by simpa using fun e => hrne e.symm) _ hm, ?_, hnd, fun k hk => .inl hk⟩
      rw [hse]
      refine relViews_set hR h1 hnd (fun v y hv => ?_) ⟨r, rfl, _, hr', RelL.set (hRr.mono fun _ _ _ _ hx => hx.turn hTw hnbr) ⟨a', c', rfl, hbb.turn hT hnb1⟩⟩
      obtain ⟨⟨r2, rfl, ht⟩, hne⟩ := hv
      exact ⟨r2, rfl, ht.turn hTw hnbr (by simpa using fun e => hne (by rw [e]))⟩
    · refine (set_old m r es er view who a n c u w hm h1 hr h3).mono ?_
      rintro e w' ⟨rfl, rfl⟩
      have hat : at2 vs view who = some x := by simp [at2, h2, h4]
      unfold SetPost
      rw [hat]
      exact ⟨rfl, Ext.refl _⟩
end Go.Proofs.Ytiofkiaibcmdhaa
