import Derived.Test.YtiofkiaibcmdhaaBest
namespace Go.Proofs.Ytiofkiaibcmdhaa
open Go Go.RowKit
section
variable {fa : Nat} {w : World} {b : Nat} {p : Ptr} {F1 F2 F3 : List Nat} {s : St}

theorem Turn.ext {w w' : World} (h : Turn [] w w') : Ext w w' := ext_of_below (h.below (Nat.le_refl _) (by simp))
theorem Ext.set {w w1 : World} (h : Ext w w1) {k i : Nat} (hk : w.heap.size ≤ k) (v : Value) : Ext w (w1.setCell ⟨k, i, none⟩ v) :=
  ((h.turn []).trans (Turn.setCell w1 ⟨k, i, none⟩ v) (fun x hx => .inr (by simp at hx; omega))).ext

theorem maj_get {t : Told} {least : Int} {v : Bytes} (h : maj t least = some v) : ∃ k, getV t k = some v ∧ least ≤ occ t v := by
  unfold maj at h
  obtain ⟨k, _, hk⟩ := List.exists_of_findSome?_eq_some h
  split at hk
  · rename_i v' hv
    split at hk
    · rename_i hle; cases hk; exact ⟨k, hv, hle⟩
    · cases hk
  · cases hk
theorem maj_length {n : Int} {t : Told} (h : ToldOk n t) {least : Int} {v : Bytes} (hm : maj t least = some v) : v.length ≤ 4096 := by
  obtain ⟨k, hk, _⟩ := maj_get hm
  exact (h.2 k v (getV_mem hk)).2.2
theorem prepared_length {s : St} (ok : s.Ok) {view : Int} {v : Bytes} (h : s.prepared view = some v) : v.length ≤ 4096 := maj_length (ok.preps.get view) h
theorem best_get {s : St} {below : Int} {q : Int × Bytes} (h : s.best below = some q) : q.1 < below ∧ s.prepared q.1 = some q.2 ∧ q.1 ∈ s.prepares.map (·.1) := by
  rw [best_eq] at h
  obtain ⟨k, hm, hk⟩ := List.exists_of_findSome?_eq_some h
  unfold bestF at hk
  split at hk
  · rename_i v hv
    split at hk
    · rename_i hlt
      cases hk
      exact ⟨hlt, hv, (isort_perm _).mem_iff.1 (List.mem_reverse.1 hm)⟩
    · cases hk
  · cases hk
theorem best_length {s : St} (ok : s.Ok) {below : Int} {q : Int × Bytes} (h : s.best below = some q) : q.2.length ≤ 4096 := prepared_length ok (best_get h).2.1

/-- A lookup among the proposals. -/
theorem PropsAt.look {w : World} {m : Nat} {t : List (Int × (Bytes × Int))} (h : PropsAt w m t) (k : Int) : ∃ (a : Option Addr) (n c : Nat) (z : Int) (bo : Bool),
    (∀ x, Sem.run Try.prog (Instr.lookup 104 (.map (some m)) (.int .i64 k) true) (later w x) = .ok (.tuple #[.agg #[.slice a n c, .int .i64 z], .bool bo]) (later w x)) ∧
    ((bo = false ∧ getV t k = none ∧ a = none ∧ n = 0) ∨ ∃ l, bo = true ∧ getV t k = some (l, z) ∧ n = l.length ∧ BB w a l) := by
  obtain ⟨es, hm, hR⟩ := h
  have q : ∀ x, _ := fun x => run_lookup_obj (P := Try.prog) (w := later w x) true k Try.underlying104 Try.underlying3 (Try.zeroValue116 _) (later_heap hm)
  rcases hR.get k with ⟨g1, g2⟩ | ⟨v, t, g1, g2, ⟨a, c, rfl, hb⟩, _⟩
  · refine ⟨none, 0, 0, 0, false, fun x => ?_, .inl ⟨rfl, g2, rfl, rfl⟩⟩
    have := q x
    simpa [g1] using this
  · refine ⟨a, t.1.length, c, t.2, true, fun x => ?_, .inr ⟨t.1, rfl, g2, rfl, hb⟩⟩
    have := q x
    simpa [g1] using this

set_option maxRecDepth 100000 in
set_option maxHeartbeats 1000000 in
theorem CoreIn.propose_step (h : CoreIn fa w b p F1 F2 F3 s) (ok : s.Ok) :
    Calls Try.prog 89 #[.pointer (some ⟨b, 0, none⟩)] w (StepPost fa b (foot b p F1 F2 F3) s.propose w) := by
  have c4 := Ext.ofBlk (i := 4) (v := .int .i64 s.view) h.blk rfl
  have c7 := Ext.ofBlk (i := 7) (v := .map (some p.mp)) h.blk rfl
  obtain ⟨a, n, c, z, bo, hlk, hcase⟩ := h.props.look s.view
  obtain ⟨o, ho⟩ : ∃ o, s.propose = o := ⟨_, rfl⟩
  rw [ho]
  go_enter Try.func89, Try.ntmps89
  go_wp2_with fail
  refine wp_region_segs (by kernel_rfl) [([0, 1, 2, 3, 4, 5, 6, 7, 8, 9, 10, 11], 12), ([], 13)] [14] [] (by decide +kernel) (fun c a d u w h => by cases d <;> exact h) ?_
  simp only [pickO, pickS, nthO, wpSegs]
  repeat (go_big_quiet_step (fail))
  refine wpQuiet_nil ?_
  refine live_step rfl (fun K hK => ?_)
  go_simp
  obtain ⟨w1, hw1⟩ : ∃ w1, (w.alloc (Obj.cells #[Value.slice none 0 0, Value.int IntKind.i64 0] 116)).drew = w1 := ⟨_, rfl⟩
  have e1 : Ext w.drew w1 := by rw [← hw1]; exact ext_of_grown (World.grownBy_alloc w.drew _ none)
  have x1 : w1.heap[w.heap.size]? = some (.cells #[Value.slice none 0 0, Value.int IntKind.i64 0] 116) := by rw [← hw1]; exact heap_alloc_new w _
  have x2 := cell_ofBlk (i := 0) (v := .slice none 0 0) x1 rfl
  have x3 := cell_ofBlk (i := 1) (v := .int .i64 0) x1 rfl
  have x4 := frozen_ofBlk (i := 0) x1
  have x5 := frozen_ofBlk (i := 1) x1
  rw [hw1]
  refine hK _ w1 w.drew (Ext.refl _) e1 ?_
  clear hK K
  refine wpQuiet_nil ?_
  refine live_step rfl (fun K hK => ?_)
  go_simp
  obtain ⟨w2, hw2⟩ : ∃ w2, ((w1.setCell ⟨w.heap.size, 0, none⟩ (.slice a n c)).setCell ⟨w.heap.size, 1, none⟩ (.int .i64 z)) = w2 := ⟨_, rfl⟩
  have e2 : Ext w.drew w2 := by rw [← hw2]; exact (e1.set (Nat.le_refl _) _).set (Nat.le_refl _) _
  have hE : Ext w w2 := (Ext.drew w).trans e2
  rw [hw2]
  refine hK _ w2 w.drew (Ext.refl _) e2 ?_
  clear hK K
  repeat (go_big_quiet_step (fail))
  refine wpQuiet_nil ?_
  refine wpList_nil ?_
  have h2 := h.ext hE
  clear hw1 hw2 x1 x2 x3 x4 x5 e1 e2 c4 c7
  have c1 := Ext.ofBlk (i := 1) (v := .int .i64 s.me) h2.blk rfl
  have c4 := Ext.ofBlk (i := 4) (v := .int .i64 s.view) h2.blk rfl
  rcases hcase with ⟨rfl, hg, rfl, rfl⟩ | ⟨l, rfl, hg, rfl, hb⟩
  · go_wp2_with fail
    refine wp_region_segs (by kernel_rfl) [([0, 1, 2, 3, 4, 5, 6, 8, 9, 10, 11], 7)] [12, 13] [] (by decide +kernel) (fun c a d u w h => by cases d <;> exact h) ?_
    simp only [pickO, pickS, nthO, wpSegs]
    repeat (go_big_quiet_step (fail))
    refine wpQuiet_nil ?_
    refine live_step rfl (fun K hK => ?_)
    go_simp
    refine ((h2.ext (Ext.drew w2)).proposer ok s.view ok.view.1 ok.view.2).mono ?_
    rintro e w3 ⟨rfl, hE3⟩
    refine hK _ w3 w3 hE3 (Ext.refl _) ?_
    clear hK K
    repeat (go_big_quiet_step (fail))
    refine wpQuiet_nil ?_
    refine wpList_nil ?_
    have hE3 := (hE.trans (Ext.drew w2)).trans hE3
    clear c1 c4
    by_cases hme : s.proposer s.view = s.me
    · have h3 := h.ext hE3
      have d4 := cell_ofBlk (i := 4) (v := .int .i64 s.view) h3.blk rfl
      have cB := h3.best ok s.view
      obtain ⟨q, hq⟩ : ∃ q, s.best s.view = q := ⟨_, rfl⟩
      rw [hq] at cB
      have hpr : o = match q with | some r => some { s with proposals := setV s.proposals s.view (r.2, r.1) } | none => if s.wishes then some { s with proposals := setV s.proposals s.view (s.wish, -1) } else none := by
        rw [← ho]; simp only [St.propose, hg, hme, hq]; cases q <;> simp
      cases q with
      | none =>
        simp only at hpr
        by_cases hw : s.wishes = true
        · rw [if_pos hw] at hpr
          subst hpr
          go_wp2_with (go_at_call 109; refine cB.mono ?_; rintro e w4 ⟨hE4, rfl⟩; have h4 := h3.ext hE4; have d5 := cell_ofBlk (i := 5) (v := .slice p.aw s.wish.length p.cw) h4.blk rfl; have d6 := cell_ofBlk (i := 6) (v := .bool true) h4.blk (by rw [← hw]; rfl))
          have hlen := ok.wish
          have k4 := Ext.ofBlk (i := 4) (v := .int .i64 s.view) h4.blk rfl
          have k7 := Ext.ofBlk (i := 7) (v := .map (some p.mp)) h4.blk rfl
          refine wp_region_segs (by kernel_rfl) [([0, 1, 2, 3, 4, 5, 6, 7, 8, 10], 9)] [11] [12] (by decide +kernel) (fun c a d u w h => by cases d <;> exact h) ?_
          simp only [pickO, pickS, nthO, wpSegs]
          repeat (go_big_quiet_step (fail))
          refine wpQuiet_nil ?_
          refine live_step rfl (fun K hK => ?_)
          go_simp
          refine (clone_any p.aw _ p.cw s.wish _ rfl (h4.wish.ext (Ext.drew w4)).bs (by have := hlen; omega)).mono ?_
          rintro e w5 ⟨a', c', rfl, hb', hE5⟩
          refine hK _ w5 w5 hE5 (Ext.refl _) ?_
          clear hK K
          repeat (go_big_quiet_step (fail))
          refine wpQuiet_nil ?_
          have hE5 := ((hE3.trans hE4).trans (Ext.drew w4)).trans hE5
          have h5 := h.ext hE5
          obtain ⟨es, hm5, hR5⟩ := h5.props
          go_wp2_with (at_mapUpdate; refine wpList_update_obj rfl rfl _ _ _ 104 rfl Try.underlying104 Try.underlying3 p.mp es s.view _ rfl rfl rfl hm5 ?_; intro w6 hr6 hT6)
          go_ret
          have hmp := (foot_mem (b := b) (p := p) (F1 := F1) (F2 := F2) (F3 := F3)).2.1
          have hnb := h5.one hmp
          refine ⟨rfl, CorePost.trans (hE5.turn _) (fun _ hk => .inl hk) ⟨_, ⟨p, F1, F2, F3, rfl, h5.setProps hT6 ⟨_, hr6, RelL.set (hR5.mono fun _ _ _ _ hx => hx.turn hT6 hnb) (x := (s.wish, -1)) ⟨a', c', rfl, hb'.turn hT6 hnb⟩⟩⟩, hT6.mono (by simpa using hmp), fun _ hk => .inl hk⟩⟩
        · rw [if_neg hw] at hpr
          subst hpr
          go_wp2_with (go_at_call 109; refine cB.mono ?_; rintro e w4 ⟨hE4, rfl⟩; have h4 := h3.ext hE4; have d6 := cell_ofBlk (i := 6) (v := .bool false) h4.blk (by simp only [Bool.not_eq_true] at hw; rw [← hw]; rfl))
          go_ret
          exact ⟨rfl, hE3.trans hE4⟩
      | some r =>
        simp only at hpr
        subst hpr
        go_wp2_with (go_at_call 109; refine cB.mono ?_; rintro e w4 ⟨hE4, av, cv, rfl, hbv⟩)
        have h4 := h3.ext hE4
        have hlen := best_length ok hq
        have k4 := Ext.ofBlk (i := 4) (v := .int .i64 s.view) h4.blk rfl
        have k7 := Ext.ofBlk (i := 7) (v := .map (some p.mp)) h4.blk rfl
        refine wp_region_segs (by kernel_rfl) [([0, 1, 2, 3, 4, 5, 6, 7, 8, 10], 9)] [11] [12] (by decide +kernel) (fun c a d u w h => by cases d <;> exact h) ?_
        simp only [pickO, pickS, nthO, wpSegs]
        repeat (go_big_quiet_step (fail))
        refine wpQuiet_nil ?_
        refine live_step rfl (fun K hK => ?_)
        go_simp
        refine (clone_any av _ cv r.2 _ rfl (hbv.ext (Ext.drew w4)).bs (by have := hlen; omega)).mono ?_
        rintro e w5 ⟨a', c', rfl, hb', hE5⟩
        refine hK _ w5 w5 hE5 (Ext.refl _) ?_
        clear hK K
        repeat (go_big_quiet_step (fail))
        refine wpQuiet_nil ?_
        have hE5 := ((hE3.trans hE4).trans (Ext.drew w4)).trans hE5
        have h5 := h.ext hE5
        obtain ⟨es, hm5, hR5⟩ := h5.props
        go_wp2_with (at_mapUpdate; refine wpList_update_obj rfl rfl _ _ _ 104 rfl Try.underlying104 Try.underlying3 p.mp es s.view _ rfl rfl rfl hm5 ?_; intro w6 hr6 hT6)
        go_ret
        have hmp := (foot_mem (b := b) (p := p) (F1 := F1) (F2 := F2) (F3 := F3)).2.1
        have hnb := h5.one hmp
        refine ⟨rfl, CorePost.trans (hE5.turn _) (fun _ hk => .inl hk) ⟨_, ⟨p, F1, F2, F3, rfl, h5.setProps hT6 ⟨_, hr6, RelL.set (hR5.mono fun _ _ _ _ hx => hx.turn hT6 hnb) (x := (r.2, r.1)) ⟨a', c', rfl, hb'.turn hT6 hnb⟩⟩⟩, hT6.mono (by simpa using hmp), fun _ hk => .inl hk⟩⟩
    · have hno : o = none := by rw [← ho]; simp [St.propose, hg, hme]
      subst hno
      have hme' : (s.proposer s.view != s.me) = true := by simpa using hme
      rw [hme']
      go_wp2_with fail
      go_ret
      exact ⟨rfl, hE3⟩
  · have hno : o = none := by rw [← ho]; simp [St.propose, hg]
    subst hno
    go_wp2_with fail
    refine wp_region_segs (by kernel_rfl) [([0, 1, 2, 3, 4, 5, 6, 8, 9, 10, 11], 7)] [12, 13] [] (by decide +kernel) (fun c a d u w h => by cases d <;> exact h) ?_
    simp only [pickO, pickS, nthO, wpSegs]
    repeat (go_big_quiet_step (fail))
    refine wpQuiet_nil ?_
    refine live_skip rfl ?_
    go_simp
    repeat (go_big_quiet_step (fail))
    refine wpQuiet_nil ?_
    refine wpList_nil ?_
    go_wp2_with fail
    go_ret
    exact ⟨rfl, hE.trans (Ext.drew _)⟩
end
end Go.Proofs.Ytiofkiaibcmdhaa
