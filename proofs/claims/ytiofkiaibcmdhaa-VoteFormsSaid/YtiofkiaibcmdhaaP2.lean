import Derived.Test.YtiofkiaibcmdhaaP1
namespace Go.Proofs.Ytiofkiaibcmdhaa
open Go Go.RowKit

/-- What is handed to New as 'accept'. -/
structure Accepts (fa : Nat) (okf : Bytes → Bool) : Prop where
  enters : ∀ args w, (callFunc fa args).run Try.prog w = .ok (.enter fa args) w
  says : ∀ (a : Option Addr) (c : Nat) (l : Bytes) (w : World), BB w a l → Calls Try.prog fa #[.slice a l.length c] w fun e w' => e = .returned (.bool (okf l)) ∧ Ext w w'

theorem fit_eq (okf : Bytes → Bool) (s : St) (l : Bytes) (z : Int) : s.fit okf (l, z) = (okf l && (decide (s.lock < 0) || decide (l = s.locked) || (decide (s.lock ≤ z) && decide (z < s.view) && (s.prepared z == some l)))) := rfl
theorem some_beq (v l : Bytes) : (some v == some l) = decide (v = l) := by rw [Bool.eq_iff_iff]; simp
theorem none_beq (l : Bytes) : (none == some l) = false := rfl

section
variable {fa : Nat} {w : World} {b : Nat} {p : Ptr} {F1 F2 F3 : List Nat} {s : St} {okf : Bytes → Bool}

set_option maxRecDepth 100000 in
set_option maxHeartbeats 1000000 in
theorem CoreIn.fit (h : CoreIn fa w b p F1 F2 F3 s) (ok : s.Ok) (hA : Accepts fa okf) (a : Option Addr) (c : Nat) (l : Bytes) (z : Int) (hb : BB w a l) (hlen : l.length ≤ 4096) :
    Calls Try.prog 110 #[.pointer (some ⟨b, 0, none⟩), .agg #[.slice a l.length c, .int .i64 z]] w fun e w' => e = .returned (.bool (s.fit okf (l, z))) ∧ Ext w w' := by
  obtain ⟨o, ho⟩ : ∃ o, s.fit okf (l, z) = o := ⟨_, rfl⟩
  have hent := hA.enters
  rw [ho]
  obtain ⟨w1, hw1⟩ : ∃ w1, w.alloc (.cells #[.slice a l.length c, .int .i64 z] 116) = w1 := ⟨_, rfl⟩
  obtain ⟨n0, hn0⟩ : ∃ n0, w.heap.size = n0 := ⟨_, rfl⟩
  have e1 : Ext w w1 := by rw [← hw1]; exact ext_of_grown (World.grownBy_alloc w _ none)
  have x1 : w1.heap[n0]? = some (.cells #[.slice a l.length c, .int .i64 z] 116) := by rw [← hw1, ← hn0]; exact heap_alloc_new w _
  have y0 := Ext.ofBlk (i := 0) (v := .slice a l.length c) x1 rfl
  have h1 := h.ext e1
  have c3 := Ext.ofBlk (i := 3) (v := .func (.func fa) #[] #[]) h1.blk rfl
  go_enter Try.func110, Try.ntmps110
  go_wp2_with fail
  refine wp_region_segs (by kernel_rfl) [([0, 1, 2, 3, 4, 5], 6), ([], 7)] [8] [] (by decide +kernel) (fun c a d u w h => by cases d <;> exact h) ?_
  simp only [pickO, pickS, nthO, wpSegs]
  repeat (go_big_quiet_step (fail))
  refine wpQuiet_nil ?_
  refine live_step rfl (fun K hK => ?_)
  go_simp
  refine (clone_any a _ c l _ rfl (hb.ext (e1.trans (Ext.drew w1))).bs (by omega)).mono ?_
  rintro e w2 ⟨a', c', rfl, hb', hE2⟩
  refine hK _ w2 w2 hE2 (Ext.refl _) ?_
  clear hK K
  refine wpQuiet_nil ?_
  refine live_step rfl (fun K hK => ?_)
  go_simp
  refine (hA.says a' c' l w2 hb').mono ?_
  rintro e w3 ⟨rfl, hE3⟩
  refine hK _ w3 w3 hE3 (Ext.refl _) ?_
  clear hK K
  repeat (go_big_quiet_step (fail))
  refine wpQuiet_nil ?_
  refine wpList_nil ?_
  have e3 : Ext w1 w3 := ((Ext.drew w1).trans hE2).trans hE3
  have h3 := h1.ext e3
  have y0 := Ext.ofBlk (i := 0) (v := .slice a l.length c) (e3.heap x1) rfl
  have y1 := Ext.ofBlk (i := 1) (v := .int .i64 z) (e3.heap x1) rfl
  have c13 := Ext.ofBlk (i := 13) (v := .int .i64 s.lock) h3.blk rfl
  have c14 := Ext.ofBlk (i := 14) (v := .slice p.al s.locked.length p.cl) h3.blk rfl
  by_cases hok : okf l = true
  · rw [hok]
    rcases Int.lt_or_le s.lock 0 with hlk | hlk
    · obtain rfl : o = true := by rw [← ho, fit_eq, hok, decide_eq_true hlk]; rfl
      go_wp2_with fail
      refine wp_region_segs (by kernel_rfl) [([0, 1, 2, 3, 4, 5, 6, 7, 8, 9, 10, 11], 12)] [13] [] (by decide +kernel) (fun c a d u w h => by cases d <;> exact h) ?_
      simp only [pickO, pickS, nthO, wpSegs]
      repeat (go_big_quiet_step (fail))
      refine wpQuiet_nil ?_
      refine live_skip rfl ?_
      go_simp
      repeat (go_big_quiet_step (fail))
      refine wpQuiet_nil ?_
      refine wpList_nil ?_
      go_wp2_with fail
      go_ret
      exact ⟨rfl, (e1.trans e3).trans (Ext.drew _)⟩
    · have hd : decide (s.lock < 0) = false := decide_eq_false (Int.not_lt.2 hlk)
      go_wp2_with fail
      refine wp_region_segs (by kernel_rfl) [([0, 1, 2, 3, 4, 5, 6, 7, 8, 9, 10, 11], 12)] [13] [] (by decide +kernel) (fun c a d u w h => by cases d <;> exact h) ?_
      simp only [pickO, pickS, nthO, wpSegs]
      repeat (go_big_quiet_step (fail))
      refine wpQuiet_nil ?_
      refine live_step rfl (fun K hK => ?_)
      go_simp
      have e4 : Ext w1 w3.drew := e3.trans (Ext.drew _)
      refine (equal_any a p.al _ _ _ _ l s.locked _ rfl rfl (hb.ext (e1.trans e4)).bs (h1.ext e4).locked.bs).mono ?_
      rintro e w4 ⟨rfl, rfl⟩
      refine hK _ _ _ (Ext.refl _) (Ext.refl _) ?_
      clear hK K
      repeat (go_big_quiet_step (fail))
      refine wpQuiet_nil ?_
      refine wpList_nil ?_
      by_cases heq : l = s.locked
      · obtain rfl : o = true := by rw [← ho, fit_eq, hok, decide_eq_true heq, Bool.or_true]; rfl
        go_wp2_with fail
        go_ret
        exact ⟨rfl, (e1.trans e4)⟩
      · have hof : o = (decide (s.lock ≤ z) && decide (z < s.view) && (s.prepared z == some l)) := by rw [← ho, fit_eq, hok, hd, decide_eq_false heq]; rfl
        have h4 := h1.ext e4
        have cP := h4.prepared ok z
        obtain ⟨q, hq⟩ : ∃ q, s.prepared z = q := ⟨_, rfl⟩
        rw [hq] at cP hof
        have d1 := cell_ofBlk (i := 1) (v := .int .i64 z) (e4.heap x1) rfl
        clear c3
        cases q with
        | none =>
          obtain rfl : o = false := by rw [hof, none_beq, Bool.and_false]
          clear hof ho
          go_wp2_with (go_at_call 111; refine cP.mono ?_; rintro e w5 ⟨hE5, rfl⟩; have e5 : Ext w1 w5 := e4.trans hE5; have h5 := h1.ext e5; have y0 := Ext.ofBlk (i := 0) (v := .slice a l.length c) (e5.heap x1) rfl; have y1 := Ext.ofBlk (i := 1) (v := .int .i64 z) (e5.heap x1) rfl; have c13 := Ext.ofBlk (i := 13) (v := .int .i64 s.lock) h5.blk rfl; have c4 := Ext.ofBlk (i := 4) (v := .int .i64 s.view) h5.blk rfl)
          by_cases g1 : s.lock ≤ z
          · by_cases g2 : z < s.view
            · refine wp_region_segs (by kernel_rfl) [([0, 1, 2, 3, 4, 5, 6, 7, 8, 9, 10, 11, 12, 13, 14, 15, 16, 17, 18, 19, 20, 21, 22], 23)] [24, 25] [] (by decide +kernel) (fun c a d u w h => by cases d <;> exact h) ?_
              simp only [pickO, pickS, nthO, wpSegs]
              repeat (go_big_quiet_step (fail))
              refine wpQuiet_nil ?_
              refine live_skip rfl ?_
              go_simp
              repeat (go_big_quiet_step (fail))
              refine wpQuiet_nil ?_
              refine wpList_nil ?_
              go_wp2_with fail
              go_ret
              exact ⟨rfl, (e1.trans e5).trans (Ext.drew _)⟩
            · refine wp_region_segs (by kernel_rfl) [([0, 1, 2, 3, 4, 5, 6, 7, 8, 9, 10, 11, 12, 13, 14, 15, 16, 17, 18, 19, 20, 21, 22], 23)] [24, 25] [] (by decide +kernel) (fun c a d u w h => by cases d <;> exact h) ?_
              simp only [pickO, pickS, nthO, wpSegs]
              repeat (go_big_quiet_step (fail))
              refine wpQuiet_nil ?_
              refine live_skip rfl ?_
              go_simp
              repeat (go_big_quiet_step (fail))
              refine wpQuiet_nil ?_
              refine wpList_nil ?_
              go_wp2_with fail
              go_ret
              exact ⟨rfl, (e1.trans e5).trans (Ext.drew _)⟩
          · refine wp_region_segs (by kernel_rfl) [([0, 1, 2, 3, 4, 5, 6, 7, 8, 9, 10, 11, 12, 13, 14, 15, 16, 17, 18, 19, 20, 21, 22], 23)] [24, 25] [] (by decide +kernel) (fun c a d u w h => by cases d <;> exact h) ?_
            simp only [pickO, pickS, nthO, wpSegs]
            repeat (go_big_quiet_step (fail))
            refine wpQuiet_nil ?_
            refine live_skip rfl ?_
            go_simp
            repeat (go_big_quiet_step (fail))
            refine wpQuiet_nil ?_
            refine wpList_nil ?_
            go_wp2_with fail
            go_ret
            exact ⟨rfl, (e1.trans e5).trans (Ext.drew _)⟩
        | some v =>
          go_wp2_with (go_at_call 111; refine cP.mono ?_; rintro e w5 ⟨hE5, av, cv, rfl, hbv⟩; have e5 : Ext w1 w5 := e4.trans hE5; have h5 := h1.ext e5; have y0 := Ext.ofBlk (i := 0) (v := .slice a l.length c) (e5.heap x1) rfl; have y1 := Ext.ofBlk (i := 1) (v := .int .i64 z) (e5.heap x1) rfl; have c13 := Ext.ofBlk (i := 13) (v := .int .i64 s.lock) h5.blk rfl; have c4 := Ext.ofBlk (i := 4) (v := .int .i64 s.view) h5.blk rfl)
          by_cases g1 : s.lock ≤ z
          · by_cases g2 : z < s.view
            · have hof2 : o = decide (v = l) := by rw [hof, decide_eq_true g1, decide_eq_true g2, some_beq]; rfl
              subst hof2
              clear hof ho
              refine wp_region_segs (by kernel_rfl) [([0, 1, 2, 3, 4, 5, 6, 7, 8, 9, 10, 11, 12, 13, 14, 15, 16, 17, 18, 19, 20, 21, 22], 23)] [24, 25] [] (by decide +kernel) (fun c a d u w h => by cases d <;> exact h) ?_
              simp only [pickO, pickS, nthO, wpSegs]
              repeat (go_big_quiet_step (fail))
              refine wpQuiet_nil ?_
              refine live_step rfl (fun K hK => ?_)
              go_simp
              have e6 : Ext w1 w5.drew := e5.trans (Ext.drew _)
              refine (equal_any av a _ _ _ _ v l _ rfl rfl (hbv.ext (Ext.drew _)).bs (hb.ext (e1.trans e6)).bs).mono ?_
              rintro e w6 ⟨rfl, rfl⟩
              refine hK _ _ _ (Ext.refl _) (Ext.refl _) ?_
              clear hK K
              repeat (go_big_quiet_step (fail))
              refine wpQuiet_nil ?_
              refine wpList_nil ?_
              go_wp2_with fail
              go_ret
              exact ⟨rfl, e1.trans e6⟩
            · obtain rfl : o = false := by rw [hof, decide_eq_false g2, Bool.and_false, Bool.false_and]
              clear hof ho
              refine wp_region_segs (by kernel_rfl) [([0, 1, 2, 3, 4, 5, 6, 7, 8, 9, 10, 11, 12, 13, 14, 15, 16, 17, 18, 19, 20, 21, 22], 23)] [24, 25] [] (by decide +kernel) (fun c a d u w h => by cases d <;> exact h) ?_
              simp only [pickO, pickS, nthO, wpSegs]
              repeat (go_big_quiet_step (fail))
              refine wpQuiet_nil ?_
              refine live_skip rfl ?_
              go_simp
              repeat (go_big_quiet_step (fail))
              refine wpQuiet_nil ?_
              refine wpList_nil ?_
              go_wp2_with fail
              go_ret
              exact ⟨rfl, (e1.trans e5).trans (Ext.drew _)⟩
          · obtain rfl : o = false := by rw [hof, decide_eq_false g1, Bool.false_and, Bool.false_and]
            clear hof ho
            refine wp_region_segs (by kernel_rfl) [([0, 1, 2, 3, 4, 5, 6, 7, 8, 9, 10, 11, 12, 13, 14, 15, 16, 17, 18, 19, 20, 21, 22], 23)] [24, 25] [] (by decide +kernel) (fun c a d u w h => by cases d <;> exact h) ?_
            simp only [pickO, pickS, nthO, wpSegs]
            repeat (go_big_quiet_step (fail))
            refine wpQuiet_nil ?_
            refine live_skip rfl ?_
            go_simp
            repeat (go_big_quiet_step (fail))
            refine wpQuiet_nil ?_
            refine wpList_nil ?_
            go_wp2_with fail
            go_ret
            exact ⟨rfl, (e1.trans e5).trans (Ext.drew _)⟩
  · simp only [Bool.not_eq_true] at hok
    rw [hok]
    obtain rfl : o = false := by rw [← ho, fit_eq, hok]; rfl
    go_wp2_with fail
    go_ret
    exact ⟨rfl, e1.trans e3⟩
end
end Go.Proofs.Ytiofkiaibcmdhaa
