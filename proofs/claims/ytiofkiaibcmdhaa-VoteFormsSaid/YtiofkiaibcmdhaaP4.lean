import Derived.Test.YtiofkiaibcmdhaaP3
namespace Go.Proofs.Ytiofkiaibcmdhaa
open Go Go.RowKit

section
variable {fa : Nat} {w : World} {b : Nat} {p : Ptr} {F1 F2 F3 : List Nat} {s : St} {okf : Bytes → Bool}

/-- Two of its own cells anew. -/
theorem CoreIn.set2 (h : CoreIn fa w b p F1 F2 F3 s) {s' : St} {p' : Ptr} {i j : Nat} {u v : Value} (hb : ((coreCells fa s p).setIfInBounds i u).setIfInBounds j v = coreCells fa s' p')
    (hm : p'.mp = p.mp ∧ p'.mpr = p.mpr ∧ p'.mc = p.mc ∧ p'.mt = p.mt ∧ p'.ms = p.ms ∧ p'.md = p.md)
    (hs : s'.proposals = s.proposals ∧ s'.prepares = s.prepares ∧ s'.commits = s.commits ∧ s'.turns = s.turns ∧ s'.seen = s.seen ∧ s'.deciders = s.deciders)
    (hw : BB w p'.aw s'.wish) (hl : BB w p'.al s'.locked) (hv : BB w p'.av s'.value) :
    CoreIn fa ((w.setCell ⟨b, i, none⟩ u).setCell ⟨b, j, none⟩ v) b p' F1 F2 F3 s' ∧ Turn [b] w ((w.setCell ⟨b, i, none⟩ u).setCell ⟨b, j, none⟩ v) := by
  have hT : Turn [b] w ((w.setCell ⟨b, i, none⟩ u).setCell ⟨b, j, none⟩ v) := (Turn.setCell w ⟨b, i, none⟩ u).trans (Turn.setCell _ ⟨b, j, none⟩ v) (fun x hx => .inl hx)
  have hS := h.one foot_mem.1
  exact ⟨h.upd hT (by rw [← hb]; exact heap_setCell_blk (heap_setCell_blk h.blk i u) j v) hm hs (hw.turn hT hS) (hl.turn hT hS) (hv.turn hT hS), hT⟩

set_option maxRecDepth 100000 in
set_option maxHeartbeats 1000000 in
theorem CoreIn.commit_step (h : CoreIn fa w b p F1 F2 F3 s) (ok : s.Ok) :
    Calls Try.prog 91 #[.pointer (some ⟨b, 0, none⟩)] w (StepPost fa b (foot b p F1 F2 F3) s.commit w) := by
  have d4 := cell_ofBlk (i := 4) (v := .int .i64 s.view) h.blk rfl
  obtain ⟨o, ho⟩ : ∃ o, s.commit = o := ⟨_, rfl⟩
  rw [ho]
  have cP := h.prepared ok s.view
  obtain ⟨q, hq⟩ : ∃ q, s.prepared s.view = q := ⟨_, rfl⟩
  rw [hq] at cP
  cases q with
  | none =>
    have hno : o = none := by rw [← ho]; simp [St.commit, hq]
    subst hno
    go_enter Try.func91, Try.ntmps91
    go_wp2_with (go_at_call 111; refine cP.mono ?_; rintro e w2 ⟨hE, rfl⟩)
    have h2 := h.ext hE
    have c1 := Ext.ofBlk (i := 1) (v := .int .i64 s.me) h2.blk rfl
    have c4 := Ext.ofBlk (i := 4) (v := .int .i64 s.view) h2.blk rfl
    have c9 := Ext.ofBlk (i := 9) (v := .map (some p.mc)) h2.blk rfl
    obtain ⟨r, a', n', c', bo', lk1, lk2, hcase2⟩ := h2.comms.look2 s.view s.me
    refine wp_region_segs (by kernel_rfl) [] [0, 1, 2, 3, 4, 5, 6, 7, 8, 9, 10, 11, 12, 13, 14, 15, 16, 17, 18] [] (by decide +kernel) (fun c a d u w h => by cases d <;> exact h) ?_
    simp only [pickO, pickS, nthO, wpSegs]
    repeat (go_big_quiet_step (fail))
    refine wpQuiet_nil ?_
    refine wpList_nil ?_
    cases bo' with
    | true =>
      go_wp2_with fail
      go_ret
      exact ⟨rfl, hE.trans (Ext.drew _)⟩
    | false =>
      go_wp2_with fail
      go_ret
      exact ⟨rfl, hE.trans (Ext.drew _)⟩
  | some v =>
    have hl := prepared_length ok hq
    have hoo : o = if (at2 s.commits s.view s.me).isNone then some { s with lock := s.view, locked := v, commits := Ytiofkiaibcmdhaa.set2 s.commits s.view s.me v } else none := by rw [← ho]; simp [St.commit, hq]
    go_enter Try.func91, Try.ntmps91
    go_wp2_with (go_at_call 111; refine cP.mono ?_; rintro e w2 ⟨hE, av, cv, rfl, hbv⟩)
    have h2 := h.ext hE
    have c1 := Ext.ofBlk (i := 1) (v := .int .i64 s.me) h2.blk rfl
    have c4 := Ext.ofBlk (i := 4) (v := .int .i64 s.view) h2.blk rfl
    have c9 := Ext.ofBlk (i := 9) (v := .map (some p.mc)) h2.blk rfl
    obtain ⟨r, a', n', c', bo', lk1, lk2, hcase2⟩ := h2.comms.look2 s.view s.me
    refine wp_region_segs (by kernel_rfl) [] [0, 1, 2, 3, 4, 5, 6, 7, 8, 9, 10, 11, 12, 13, 14, 15, 16, 17, 18] [] (by decide +kernel) (fun c a d u w h => by cases d <;> exact h) ?_
    simp only [pickO, pickS, nthO, wpSegs]
    repeat (go_big_quiet_step (fail))
    refine wpQuiet_nil ?_
    refine wpList_nil ?_
    obtain ⟨w3, hw3⟩ : ∃ w3, w2.drew = w3 := ⟨_, rfl⟩
    have hE3 : Ext w w3 := by rw [← hw3]; exact hE.trans (Ext.drew _)
    have hbv : BB w3 av v := by rw [← hw3]; exact hbv.ext (Ext.drew _)
    rw [hw3]
    clear hw3
    have h3 := h.ext hE3
    clear lk1 lk2 c1 c4 c9 d4
    have d4 := cell_ofBlk (i := 4) (v := .int .i64 s.view) h3.blk rfl
    have d13 := cell_ofBlk (i := 13) (v := .int .i64 s.lock) h3.blk rfl
    have f13 := frozen_ofBlk (i := 13) h3.blk
    have hq3 := heap_setCell_blk h3.blk 13 (.int .i64 s.view)
    have d14 := cell_ofBlk (i := 14) (v := .slice p.al s.locked.length p.cl) hq3 rfl
    have f14 := frozen_ofBlk (i := 14) hq3
    clear hq3
    rcases hcase2 with ⟨rfl, hat⟩ | ⟨l2, rfl, hat, _, _⟩
    · rw [hat] at hoo
      simp only [Option.isNone_none, if_true] at hoo
      subst hoo
      go_wp2_with fail
      obtain ⟨h5, hT5⟩ := h3.set2 (s' := { s with lock := s.view, locked := v }) (p' := { p with al := av, cl := cv }) (i := 13) (j := 14) (u := .int .i64 s.view) (v := .slice av v.length cv) rfl ⟨rfl, rfl, rfl, rfl, rfl, rfl⟩ ⟨rfl, rfl, rfl, rfl, rfl, rfl⟩ h3.wish hbv h3.value
      have hbv5 := hbv.turn hT5 (h3.one foot_mem.1)
      obtain ⟨w5, hw5⟩ : ∃ w5, ((w3.setCell ⟨b, 13, none⟩ (.int .i64 s.view)).setCell ⟨b, 14, none⟩ (.slice av v.length cv)) = w5 := ⟨_, rfl⟩
      rw [hw5] at h5 hT5 hbv5 ⊢
      clear d4 d13 d14 f13 f14 hw5
      have k1 := Ext.ofBlk (i := 1) (v := .int .i64 s.me) h5.blk rfl
      have k4 := Ext.ofBlk (i := 4) (v := .int .i64 s.view) h5.blk rfl
      have k9 := Ext.ofBlk (i := 9) (v := .map (some p.mc)) h5.blk rfl
      refine wp_region_segs (by kernel_rfl) [] [0, 1, 2, 3, 4, 5, 6, 7, 8, 9, 10, 11, 12] [13, 14] (by decide +kernel) (fun c a d u w h => by cases d <;> exact h) ?_
      simp only [pickO, pickS, nthO, wpSegs]
      repeat (go_big_quiet_step (fail))
      refine wpQuiet_nil ?_
      have cS := (h5.ext (Ext.drew w5)).set_comms s.view s.me av cv v (hbv5.ext (Ext.drew _)).bs hl
      simp only [hat, Option.isSome_none] at cS
      go_wp2_with (go_at_call 87; refine cS.mono ?_; rintro e w6 ⟨rfl, hC⟩)
      go_ret
      refine ⟨rfl, CorePost.trans (hE3.turn _) (fun _ hk => .inl hk) (CorePost.trans ((hT5.trans ((Ext.drew w5).turn []) (fun x hx => by cases hx)).mono (by simp [foot])) (fun _ hk => .inl hk) hC)⟩
    · rw [hat] at hoo
      simp only [Option.isNone_some, Bool.false_eq_true, if_false] at hoo
      subst hoo
      go_wp2_with fail
      go_ret
      exact ⟨rfl, hE3⟩
end
end Go.Proofs.Ytiofkiaibcmdhaa
