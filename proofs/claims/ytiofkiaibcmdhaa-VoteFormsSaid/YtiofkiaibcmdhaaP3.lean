import Derived.Test.YtiofkiaibcmdhaaP2
namespace Go.Proofs.Ytiofkiaibcmdhaa
open Go Go.RowKit

theorem BS.ne_map {w : World} {a : Option Addr} {l : Bytes} (h : BS w a l) {m : Nat} {es : List (Int × Value)} (hm : w.heap[m]? = some (mapObj es)) : ∀ q, a = some q → l ≠ [] → q.block ≠ m := by
  rintro q rfl hl rfl
  obtain ⟨_, cs, e, fz, h1⟩ := h.row hl
  rw [hm] at h1
  simp [mapObj] at h1

/-- A lookup of what a peer told in a view. -/
theorem ViewsAt.look2 {w : World} {m : Nat} {F : List Nat} {vs : List (Int × Told)} (h : ViewsAt w m F vs) (k who : Int) : ∃ (r : Option Nat) (a : Option Addr) (n c : Nat) (bo : Bool),
    (∀ x, Sem.run Try.prog (Instr.lookup 105 (.map (some m)) (.int .i64 k) false) (later w x) = .ok (.map r) (later w x)) ∧
    (∀ x, Sem.run Try.prog (Instr.lookup 108 (.map r) (.int .i64 who) true) (later w x) = .ok (.tuple #[.slice a n c, .bool bo]) (later w x)) ∧
    ((bo = false ∧ at2 vs k who = none) ∨ ∃ l, bo = true ∧ at2 vs k who = some l ∧ n = l.length ∧ BB w a l) := by
  obtain ⟨r, h1, h2⟩ := h.look k
  rcases h2 with ⟨rfl, hn⟩ | ⟨q, t, rfl, hg, es, hq, hR⟩
  · refine ⟨none, none, 0, 0, false, h1, fun x => ?_, .inl ⟨rfl, by simp [at2, hn, getV]⟩⟩
    have := run_lookup_nilmap (P := Try.prog) (w := later w x) true who Try.underlying108 Try.underlying3 (Try.zeroValue29 _)
    simpa using this
  · have lk : ∀ x, _ := fun x => run_lookup_obj (P := Try.prog) (w := later w x) true who Try.underlying108 Try.underlying3 (Try.zeroValue29 _) (later_heap hq)
    rcases hR.get who with ⟨g1, g2⟩ | ⟨v, l, g1, g2, ⟨a, c, rfl, hb⟩, _⟩
    · refine ⟨some q, none, 0, 0, false, h1, fun x => ?_, .inl ⟨rfl, by simp [at2, hg, g2]⟩⟩
      have := lk x
      simpa [g1] using this
    · refine ⟨some q, a, l.length, c, true, h1, fun x => ?_, .inr ⟨l, rfl, by simp [at2, hg, g2], rfl, hb⟩⟩
      have := lk x
      simpa [g1] using this

/-- What 'set' leaves of a core. -/
def CoreSet (fa b : Nat) (fp : List Nat) (told : Bool) (s : St) (w : World) (e : Ending) (w' : World) : Prop :=
  if told then e = .returned (.bool false) ∧ Ext w w' else e = .returned (.bool true) ∧ CorePost fa b fp s w w'

section
variable {fa : Nat} {w : World} {b : Nat} {p : Ptr} {F1 F2 F3 : List Nat} {s : St} {okf : Bytes → Bool}

theorem CoreIn.set_preps (h : CoreIn fa w b p F1 F2 F3 s) (view who : Int) (a : Option Addr) (c : Nat) (l : Bytes) (hb : BS w a l) (hlen : l.length ≤ 4096) :
    Calls Try.prog 87 #[.map (some p.mpr), .int .i64 view, .int .i64 who, .slice a l.length c] w (CoreSet fa b (foot b p F1 F2 F3) (at2 s.prepares view who).isSome { s with prepares := set2 s.prepares view who l } w) := by
  obtain ⟨es, hm, hR, hF⟩ := h.preps
  have hnd : (p.mpr :: F1).Nodup := by
    have := h.nodup
    simp only [foot, List.cons_append, List.nil_append, List.nodup_cons, List.mem_cons, List.mem_append, not_or] at this
    rw [List.nodup_append] at this
    exact List.nodup_cons.2 ⟨this.2.2.1.2.2.2.2.1, this.2.2.2.2.2.2.2.1⟩
  refine (set_any p.mpr es s.prepares view who a l.length c l w hm hR (hF ▸ hnd) rfl hb (hb.ne_map hm) (by omega)).mono ?_
  intro e w' hp
  unfold SetPost at hp
  unfold CoreSet
  split
  · rename_i hc; rw [if_pos hc] at hp; exact hp
  · rename_i hc
    rw [if_neg hc] at hp
    obtain ⟨rfl, hT, es', h1, h2, h3, h4⟩ := hp
    rw [← hF] at hT h4
    obtain ⟨q0, q1, q2, q3, q4, q5, q6, q7, q8, q9⟩ := foot_mem (b := b) (p := p) (F1 := F1) (F2 := F2) (F3 := F3)
    refine ⟨rfl, _, ⟨p, _, F2, F3, rfl, h.setPreps hT ⟨es', h1, h2, rfl⟩ (List.nodup_cons.1 h3).2 h4⟩, hT.mono fun k hk => ?_, fun k hk => ?_⟩
    · rcases List.mem_cons.1 hk with rfl | hk
      · exact q2
      · exact q7 k hk
    · simp only [foot, List.mem_append, List.mem_cons, List.not_mem_nil, or_false] at hk ⊢
      rcases hk with hk | hk | hk
      · exact .inl (.inl hk)
      · rcases h4 k hk with h5 | h5
        · exact .inl (.inr (.inl h5))
        · exact .inr h5
      · exact .inl (.inr (.inr hk))

theorem CoreIn.set_comms (h : CoreIn fa w b p F1 F2 F3 s) (view who : Int) (a : Option Addr) (c : Nat) (l : Bytes) (hb : BS w a l) (hlen : l.length ≤ 4096) :
    Calls Try.prog 87 #[.map (some p.mc), .int .i64 view, .int .i64 who, .slice a l.length c] w (CoreSet fa b (foot b p F1 F2 F3) (at2 s.commits view who).isSome { s with commits := set2 s.commits view who l } w) := by
  obtain ⟨es, hm, hR, hF⟩ := h.comms
  have hnd : (p.mc :: F2).Nodup := by
    have := h.nodup
    simp only [foot, List.cons_append, List.nil_append, List.nodup_cons, List.mem_cons, List.mem_append, not_or] at this
    rw [List.nodup_append, List.nodup_append] at this
    exact List.nodup_cons.2 ⟨this.2.2.2.1.2.2.2.2.1, this.2.2.2.2.2.2.2.2.1.1⟩
  refine (set_any p.mc es s.commits view who a l.length c l w hm hR (hF ▸ hnd) rfl hb (hb.ne_map hm) (by omega)).mono ?_
  intro e w' hp
  unfold SetPost at hp
  unfold CoreSet
  split
  · rename_i hc; rw [if_pos hc] at hp; exact hp
  · rename_i hc
    rw [if_neg hc] at hp
    obtain ⟨rfl, hT, es', h1, h2, h3, h4⟩ := hp
    rw [← hF] at hT h4
    obtain ⟨q0, q1, q2, q3, q4, q5, q6, q7, q8, q9⟩ := foot_mem (b := b) (p := p) (F1 := F1) (F2 := F2) (F3 := F3)
    refine ⟨rfl, _, ⟨p, F1, _, F3, rfl, h.setComms hT ⟨es', h1, h2, rfl⟩ (List.nodup_cons.1 h3).2 h4⟩, hT.mono fun k hk => ?_, fun k hk => ?_⟩
    · rcases List.mem_cons.1 hk with rfl | hk
      · exact q3
      · exact q8 k hk
    · simp only [foot, List.mem_append, List.mem_cons, List.not_mem_nil, or_false] at hk ⊢
      rcases hk with hk | hk | hk | hk
      · exact .inl (.inl hk)
      · exact .inl (.inr (.inl hk))
      · rcases h4 k hk with h5 | h5
        · exact .inl (.inr (.inr (.inl h5)))
        · exact .inr h5
      · exact .inl (.inr (.inr (.inr hk)))

theorem CoreIn.set_turns (h : CoreIn fa w b p F1 F2 F3 s) (view who : Int) (a : Option Addr) (c : Nat) (l : Bytes) (hb : BS w a l) (hlen : l.length ≤ 4096) :
    Calls Try.prog 87 #[.map (some p.mt), .int .i64 view, .int .i64 who, .slice a l.length c] w (CoreSet fa b (foot b p F1 F2 F3) (at2 s.turns view who).isSome { s with turns := set2 s.turns view who l } w) := by
  obtain ⟨es, hm, hR, hF⟩ := h.turns
  have hnd : (p.mt :: F3).Nodup := by
    have := h.nodup
    simp only [foot, List.cons_append, List.nil_append, List.nodup_cons, List.mem_cons, List.mem_append, not_or] at this
    rw [List.nodup_append, List.nodup_append] at this
    exact List.nodup_cons.2 ⟨this.2.2.2.2.1.2.2.2.2, this.2.2.2.2.2.2.2.2.1.2.1⟩
  refine (set_any p.mt es s.turns view who a l.length c l w hm hR (hF ▸ hnd) rfl hb (hb.ne_map hm) (by omega)).mono ?_
  intro e w' hp
  unfold SetPost at hp
  unfold CoreSet
  split
  · rename_i hc; rw [if_pos hc] at hp; exact hp
  · rename_i hc
    rw [if_neg hc] at hp
    obtain ⟨rfl, hT, es', h1, h2, h3, h4⟩ := hp
    rw [← hF] at hT h4
    obtain ⟨q0, q1, q2, q3, q4, q5, q6, q7, q8, q9⟩ := foot_mem (b := b) (p := p) (F1 := F1) (F2 := F2) (F3 := F3)
    refine ⟨rfl, _, ⟨p, F1, F2, _, rfl, h.setTurns hT ⟨es', h1, h2, rfl⟩ (List.nodup_cons.1 h3).2 h4⟩, hT.mono fun k hk => ?_, fun k hk => ?_⟩
    · rcases List.mem_cons.1 hk with rfl | hk
      · exact q4
      · exact q9 k hk
    · simp only [foot, List.mem_append, List.mem_cons, List.not_mem_nil, or_false] at hk ⊢
      rcases hk with hk | hk | hk | hk
      · exact .inl (.inl hk)
      · exact .inl (.inr (.inl hk))
      · exact .inl (.inr (.inr (.inl hk)))
      · rcases h4 k hk with h5 | h5
        · exact .inl (.inr (.inr (.inr h5)))
        · exact .inr h5

set_option maxRecDepth 100000 in
set_option maxHeartbeats 1000000 in
theorem CoreIn.prepare_step (h : CoreIn fa w b p F1 F2 F3 s) (ok : s.Ok) (hA : Accepts fa okf) :
    Calls Try.prog 90 #[.pointer (some ⟨b, 0, none⟩)] w (StepPost fa b (foot b p F1 F2 F3) (s.prepare okf) w) := by
  have c4 := Ext.ofBlk (i := 4) (v := .int .i64 s.view) h.blk rfl
  have c7 := Ext.ofBlk (i := 7) (v := .map (some p.mp)) h.blk rfl
  obtain ⟨a, n, c, z, bo, hlk, hcase⟩ := h.props.look s.view
  obtain ⟨o, ho⟩ : ∃ o, s.prepare okf = o := ⟨_, rfl⟩
  rw [ho]
  obtain ⟨n0, hn0⟩ : ∃ n0, w.heap.size = n0 := ⟨_, rfl⟩
  go_enter Try.func90, Try.ntmps90
  go_wp2_with fail
  refine wp_region_segs (by kernel_rfl) [([0, 1, 2, 3, 4, 5, 6, 7, 8, 9, 10, 11], 12), ([], 13)] [14] [] (by decide +kernel) (fun c a d u w h => by cases d <;> exact h) ?_
  simp only [pickO, pickS, nthO, wpSegs]
  repeat (go_big_quiet_step (fail))
  refine wpQuiet_nil ?_
  refine live_step rfl (fun K hK => ?_)
  go_simp
  obtain ⟨w1, hw1⟩ : ∃ w1, (w.alloc (Obj.cells #[Value.slice none 0 0, Value.int IntKind.i64 0] 116)).drew = w1 := ⟨_, rfl⟩
  have e1 : Ext w.drew w1 := by rw [← hw1]; exact ext_of_grown (World.grownBy_alloc w.drew _ none)
  have x1 : w1.heap[n0]? = some (.cells #[Value.slice none 0 0, Value.int IntKind.i64 0] 116) := by rw [← hw1, ← hn0]; exact heap_alloc_new w _
  have x2 := cell_ofBlk (i := 0) (v := .slice none 0 0) x1 rfl
  have x3 := cell_ofBlk (i := 1) (v := .int .i64 0) x1 rfl
  have x4 := frozen_ofBlk (i := 0) x1
  have x5 := frozen_ofBlk (i := 1) x1
  rw [hw1]
  refine hK _ w1 w.drew (Ext.refl _) e1 ?_
  clear hK K
  refine wpQuiet_nil ?_
  refine live_step rfl (fun K hK => ?_)
  go_simp
  obtain ⟨w2, hw2⟩ : ∃ w2, ((w1.setCell ⟨n0, 0, none⟩ (.slice a n c)).setCell ⟨n0, 1, none⟩ (.int .i64 z)) = w2 := ⟨_, rfl⟩
  have e2 : Ext w.drew w2 := by rw [← hw2]; exact (e1.set (by rw [← hn0]; exact Nat.le_refl _) _).set (by rw [← hn0]; exact Nat.le_refl _) _
  have hE : Ext w w2 := (Ext.drew w).trans e2
  have z2 : w2.heap[n0]? = some (.cells #[.slice a n c, .int .i64 z] 116) := by rw [← hw2]; exact heap_setCell_blk (heap_setCell_blk x1 0 _) 1 _
  rw [hw2]
  refine hK _ w2 w.drew (Ext.refl _) e2 ?_
  clear hK K
  repeat (go_big_quiet_step (fail))
  refine wpQuiet_nil ?_
  refine wpList_nil ?_
  have h2 := h.ext hE
  clear hw1 hw2 x1 x2 x3 x4 x5 e1 e2 c4 c7
  have c1 := Ext.ofBlk (i := 1) (v := .int .i64 s.me) h2.blk rfl
  have c4 := Ext.ofBlk (i := 4) (v := .int .i64 s.view) h2.blk rfl
  have c8 := Ext.ofBlk (i := 8) (v := .map (some p.mpr)) h2.blk rfl
  obtain ⟨r, a', n', c', bo', lk1, lk2, hcase2⟩ := h2.preps.look2 s.view s.me
  go_wp2_with fail
  refine wp_region_segs (by kernel_rfl) [] [0, 1, 2, 3, 4, 5, 6, 7, 8, 9, 10, 11, 12, 13, 14, 15, 16, 17, 18] [] (by decide +kernel) (fun c a d u w h => by cases d <;> exact h) ?_
  simp only [pickO, pickS, nthO, wpSegs]
  repeat (go_big_quiet_step (fail))
  refine wpQuiet_nil ?_
  refine wpList_nil ?_
  have hE3 : Ext w w2.drew := hE.trans (Ext.drew _)
  have h3 := h.ext hE3
  have z3 := (Ext.drew w2).heap z2
  have z30 := cell_ofBlk (i := 0) (v := .slice a n c) z3 rfl
  have z31 := cell_ofBlk (i := 1) (v := .int .i64 z) z3 rfl
  clear lk1 lk2 hlk c1 c4 c8
  rcases hcase2 with ⟨rfl, hat⟩ | ⟨l2, rfl, hat, _, _⟩
  · rcases hcase with ⟨rfl, hg, rfl, rfl⟩ | ⟨l, rfl, hg, rfl, hb⟩
    · have hno : o = none := by rw [← ho]; simp [St.prepare, hg]
      subst hno
      go_wp2_with fail
      go_ret
      exact ⟨rfl, hE3⟩
    · have hl := (ok.props.2 _ _ (getV_mem hg)).2.2.1
      obtain ⟨f, hf⟩ : ∃ f, s.fit okf (l, z) = f := ⟨_, rfl⟩
      have cF := h3.fit ok hA a c l z (hb.ext hE3) hl
      rw [hf] at cF
      have hoo : o = if f then some { s with prepares := set2 s.prepares s.view s.me l } else none := by rw [← ho]; simp [St.prepare, hg, hat, hf]
      cases f with
      | false =>
        simp only [Bool.false_eq_true, if_false] at hoo
        subst hoo
        go_wp2_with (go_at_call 110; refine cF.mono ?_; rintro e w4 ⟨rfl, hE4⟩)
        go_ret
        exact ⟨rfl, hE3.trans hE4⟩
      | true =>
        simp only [if_true] at hoo
        subst hoo
        go_wp2_with (go_at_call 110; refine cF.mono ?_; rintro e w4 ⟨rfl, hE4⟩)
        have e4 := hE3.trans hE4
        have h4 := h.ext e4
        have z4 := hE4.heap z3
        clear z30 z31
        have k0 := Ext.ofBlk (i := 0) (v := .slice a l.length c) z4 rfl
        have k1 := Ext.ofBlk (i := 1) (v := .int .i64 s.me) h4.blk rfl
        have k4 := Ext.ofBlk (i := 4) (v := .int .i64 s.view) h4.blk rfl
        have k8 := Ext.ofBlk (i := 8) (v := .map (some p.mpr)) h4.blk rfl
        refine wp_region_segs (by kernel_rfl) [] [0, 1, 2, 3, 4, 5, 6, 7, 8, 9, 10, 11, 12, 13] [14, 15] (by decide +kernel) (fun c a d u w h => by cases d <;> exact h) ?_
        simp only [pickO, pickS, nthO, wpSegs]
        repeat (go_big_quiet_step (fail))
        refine wpQuiet_nil ?_
        have e5 := e4.trans (Ext.drew w4)
        have cS := (h.ext e5).set_preps s.view s.me a c l (hb.ext e5).bs hl
        simp only [hat, Option.isSome_none] at cS
        go_wp2_with (go_at_call 87; refine cS.mono ?_; rintro e w6 ⟨rfl, hC⟩)
        go_ret
        exact ⟨rfl, CorePost.trans (e5.turn _) (fun _ hk => .inl hk) hC⟩
  · have hno : o = none := by rw [← ho]; simp [St.prepare, hat]; cases getV s.proposals s.view <;> rfl
    subst hno
    go_wp2_with fail
    go_ret
    exact ⟨rfl, hE3⟩
end
end Go.Proofs.Ytiofkiaibcmdhaa
