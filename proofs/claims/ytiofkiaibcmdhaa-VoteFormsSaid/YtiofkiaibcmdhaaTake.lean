import Derived.Test.YtiofkiaibcmdhaaWire
namespace Go.Proofs.Ytiofkiaibcmdhaa
open Go Go.RowKit

theorem St.Ok.know {s t : St} (ok : s.Ok) {v : Vt} (hr : v.right = true) (hn : v.from_ ≤ s.n) (h : s.know v = some t) : t.Ok ∧ t.n = s.n ∧ t.me = s.me ∧ t.slot = s.slot ∧ t.view = s.view ∧ t.decided = s.decided ∧ t.value = s.value ∧ t.seen = s.seen := by
  obtain ⟨h1, h2, h3, h4, h5, h6⟩ := Vt.right_spec hr
  unfold St.know at h
  split at h
  · split at h
    · cases h
    · cases h
      refine ⟨{ ok with props := ⟨setV_nodup ok.props.1 _ _, fun j x hm => ?_⟩ }, rfl, rfl, rfl, rfl, rfl, rfl, rfl⟩
      rcases mem_setV hm with ⟨rfl, rfl⟩ | hm
      · exact ⟨h4.1, h4.2, h6, h5.1, h5.2⟩
      · exact ok.props.2 j x hm
  · split at h
    · split at h
      · cases h
      · cases h
        exact ⟨{ ok with preps := ok.preps.set h4 h2.1 hn h6 }, rfl, rfl, rfl, rfl, rfl, rfl, rfl⟩
    · split at h
      · split at h
        · cases h
        · cases h
          exact ⟨{ ok with comms := ok.comms.set h4 h2.1 hn h6 }, rfl, rfl, rfl, rfl, rfl, rfl, rfl⟩
      · split at h
        · split at h
          · cases h
          · cases h
            exact ⟨{ ok with turns := ok.turns.set h4 h2.1 hn h6 }, rfl, rfl, rfl, rfl, rfl, rfl, rfl⟩
        · split at h
          · cases h
          · cases h
            exact ⟨{ ok with decs := ok.decs.set h2.1 hn h6 }, rfl, rfl, rfl, rfl, rfl, rfl, rfl⟩

theorem St.Ok.note {s : St} (ok : s.Ok) {v : Vt} (hr : v.right = true) (hn : v.from_ ≤ s.n) : (s.note v).Ok := by
  obtain ⟨h1, h2, h3, h4, h5, h6⟩ := Vt.right_spec hr
  unfold St.note
  split
  · exact ok
  · refine { ok with seen := ⟨setV_nodup ok.seen.1 _ _, fun j x hm => ?_⟩ }
    rcases mem_setV hm with ⟨rfl, rfl⟩ | hm
    · refine ⟨h2.1, hn, ?_⟩
      cases hg : getV s.seen v.from_ with
      | none => simp only [Option.getD_none]; omega
      | some y => have := ok.seen.2 _ y (getV_mem hg); simp only [Option.getD_some]; omega
    · exact ok.seen.2 j x hm

theorem SeenAt.look {w : World} {m : Nat} {t : List (Int × Int)} (h : SeenAt w m t) (k : Int) : ∀ x, Sem.run Try.prog (Instr.lookup 106 (.map (some m)) (.int .i64 k) false) (later w x) = .ok (.int .i64 ((getV t k).getD 0)) (later w x) := by
  obtain ⟨es, hm, hR⟩ := h
  intro x
  have q := run_lookup_obj (P := Try.prog) (w := later w x) false k Try.underlying106 Try.underlying3 (Try.zeroValue3 _) (later_heap hm)
  rcases hR.get k with ⟨g1, g2⟩ | ⟨v, t, g1, g2, hv, _⟩
  · simpa [g1, g2] using q
  · have hv' : v = .int .i64 t := hv
    subst hv'
    simpa [g1, g2] using q

/-- What Take leaves. -/
def TakePost (fa b : Nat) (fp : List Nat) (okf : Bytes → Bool) (o : Option St) (w : World) (e : Ending) (w' : World) : Prop :=
  match o with
  | none => e = .returned (.bool false) ∧ Ext w w'
  | some t => e = .returned (.bool true) ∧ ∃ u, u.Ok ∧ Acts okf t u ∧ CorePost fa b fp u w w'

section
variable {fa : Nat} {w : World} {b : Nat} {fp : List Nat} {s : St} {okf : Bytes → Bool}

set_option maxRecDepth 100000 in
set_option maxHeartbeats 2000000 in
theorem CoreAt.take_of (h : CoreAt fa w b fp s) (ok : s.Ok) (hA : Accepts fa okf) (v : Vt) (hf : v.fits) (a : Option Addr) (c : Nat) (hb : BS w a v.value) :
    Calls Try.prog 18 #[.pointer (some ⟨b, 0, none⟩), .agg (voteCells v a c)] w (TakePost fa b fp okf (s.hear v) w) := by
  obtain ⟨p, F1, F2, F3, rfl, h⟩ := h
  obtain ⟨kind, from_, slot, view, valid, value⟩ := v
  simp only at hb
  show Calls Try.prog 18 #[.pointer (some ⟨b, 0, none⟩), .agg #[.int .i64 kind, .int .i64 from_, .int .i64 slot, .int .i64 view, .int .i64 valid, .slice a value.length c]] w _
  obtain ⟨w1, hw1⟩ : ∃ w1, w.alloc (.cells #[.int .i64 kind, .int .i64 from_, .int .i64 slot, .int .i64 view, .int .i64 valid, .slice a value.length c] 31) = w1 := ⟨_, rfl⟩
  obtain ⟨n0, hn0⟩ : ∃ n0, w.heap.size = n0 := ⟨_, rfl⟩
  have e1 : Ext w w1 := by rw [← hw1]; exact ext_of_grown (World.grownBy_alloc w _ none)
  have x1 : w1.heap[n0]? = some (.cells #[.int .i64 kind, .int .i64 from_, .int .i64 slot, .int .i64 view, .int .i64 valid, .slice a value.length c] 31) := by rw [← hw1, ← hn0]; exact heap_alloc_new w _
  have h1 := h.ext e1
  have c0 := Ext.ofBlk (i := 0) (v := .int .i64 s.n) h1.blk rfl
  have c1 := Ext.ofBlk (i := 1) (v := .int .i64 s.me) h1.blk rfl
  have c2 := Ext.ofBlk (i := 2) (v := .int .i64 s.slot) h1.blk rfl
  have y1 := Ext.ofBlk (i := 1) (v := .int .i64 from_) x1 rfl
  have y2 := Ext.ofBlk (i := 2) (v := .int .i64 slot) x1 rfl
  obtain ⟨o, ho⟩ : ∃ o, s.hear (Vt.mk kind from_ slot view valid value) = o := ⟨_, rfl⟩
  rw [ho]
  by_cases g1 : slot = s.slot
  · subst g1
    by_cases g2 : s.n < from_
    · have hno : o = none := by rw [← ho]; simp [St.hear, g2]
      subst hno
      go_enter Try.func18, Try.ntmps18
      go_wp2_with fail
      refine wp_region_segs (by kernel_rfl) [] [0, 1, 2, 3, 4, 5, 6, 7, 8, 9, 10, 11, 12, 13, 14, 15, 16, 17, 18, 19, 20, 21, 22, 23, 24, 25, 26, 27, 28] [] (by decide +kernel) (fun c a d u w h => by cases d <;> exact h) ?_
      simp only [pickO, pickS, nthO, wpSegs]
      repeat (go_big_quiet_step (fail))
      refine wpQuiet_nil ?_
      refine wpList_nil ?_
      go_wp2_with fail
      go_ret
      exact ⟨rfl, e1.trans (Ext.drew _)⟩
    · have g2' : from_ ≤ s.n := by omega
      have hd2 : decide (s.n < from_) = false := decide_eq_false g2
      by_cases g3 : from_ = s.me
      · have hno : o = none := by rw [← ho]; simp [St.hear, g3]
        subst hno
        subst g3
        go_enter Try.func18, Try.ntmps18
        go_wp2_with fail
        refine wp_region_segs (by kernel_rfl) [] [0, 1, 2, 3, 4, 5, 6, 7, 8, 9, 10, 11, 12, 13, 14, 15, 16, 17, 18, 19, 20, 21, 22, 23, 24, 25, 26, 27, 28] [] (by decide +kernel) (fun c a d u w h => by cases d <;> exact h) ?_
        simp only [pickO, pickS, nthO, wpSegs]
        repeat (go_big_quiet_step (fail))
        refine wpQuiet_nil ?_
        refine wpList_nil ?_
        go_wp2_with fail
        go_ret
        exact ⟨rfl, e1.trans (Ext.drew _)⟩
      · have g3' : (from_ == s.me) = false := by simpa using g3
        have hh : o = if (Vt.mk kind from_ s.slot view valid value).right then (s.know (Vt.mk kind from_ s.slot view valid value)).map (·.note (Vt.mk kind from_ s.slot view valid value)) else none := by
          rw [← ho]
          unfold St.hear
          simp only [bne_self_eq_false, Bool.false_or, decide_eq_false g2]
          rw [show ((from_ == s.me) = false) from by simpa using g3]
          cases (Vt.mk kind from_ s.slot view valid value).right <;> rfl
        go_enter Try.func18, Try.ntmps18
        go_wp2_with fail
        refine wp_region_segs (by kernel_rfl) [] [0, 1, 2, 3, 4, 5, 6, 7, 8, 9, 10, 11, 12, 13, 14, 15, 16, 17, 18, 19, 20, 21, 22, 23, 24, 25, 26, 27, 28] [] (by decide +kernel) (fun c a d u w h => by cases d <;> exact h) ?_
        simp only [pickO, pickS, nthO, wpSegs]
        repeat (go_big_quiet_step (fail))
        refine wpQuiet_nil ?_
        refine wpList_nil ?_
        clear c0 c1 c2 y1 y2 hd2 g3'
        obtain ⟨w2, hw2⟩ : ∃ w2, w1.drew = w2 := ⟨_, rfl⟩
        have e12 : Ext w1 w2 := by rw [← hw2]; exact Ext.drew w1
        rw [hw2]
        clear hw2
        have e2 := e1.trans e12
        have x2 := e12.heap x1
        have z0 := cell_ofBlk (i := 0) (v := .int .i64 kind) x2 rfl
        have z1 := cell_ofBlk (i := 1) (v := .int .i64 from_) x2 rfl
        have z2 := cell_ofBlk (i := 2) (v := .int .i64 s.slot) x2 rfl
        have z3 := cell_ofBlk (i := 3) (v := .int .i64 view) x2 rfl
        have z4 := cell_ofBlk (i := 4) (v := .int .i64 valid) x2 rfl
        have z5 := cell_ofBlk (i := 5) (v := .slice a value.length c) x2 rfl
        have cE := encode_any (Vt.mk kind from_ s.slot view valid value) a c w2 hf (hb.ext e2)
        change Calls Try.prog 24 #[.agg #[.int .i64 kind, .int .i64 from_, .int .i64 s.slot, .int .i64 view, .int .i64 valid, .slice a value.length c]] w2 _ at cE
        cases hr : (Vt.mk kind from_ s.slot view valid value).right with
        | false =>
          rw [hr] at hh
          simp only [Bool.false_eq_true, if_false] at hh
          subst hh
          unfold EncPost at cE
          rw [hr] at cE
          go_wp2_with (go_at_call 24; refine cE.mono ?_; rintro e w3 ⟨e3, xv, rfl⟩)
          go_ret
          exact ⟨rfl, e2.trans e3⟩
        | true =>
          rw [hr] at hh
          simp only [if_true] at hh
          unfold EncPost at cE
          rw [hr] at cE
          obtain ⟨ko, hko⟩ : ∃ ko, s.know (Vt.mk kind from_ s.slot view valid value) = ko := ⟨_, rfl⟩
          rw [hko] at hh
          have hkk : ∀ w3, Ext w2 w3 → Calls Try.prog 60 #[.pointer (some ⟨b, 0, none⟩), .agg #[.int .i64 kind, .int .i64 from_, .int .i64 s.slot, .int .i64 view, .int .i64 valid, .slice a value.length c]] w3 (StepPost fa b (foot b p F1 F2 F3) ko w3) := fun w3 e3 => by
            have := (h.ext (e2.trans e3)).know_of ok _ hr a c (hb.ext (e2.trans e3))
            rw [hko] at this
            exact this
          cases ko with
          | none =>
            simp only [Option.map_none] at hh
            subst hh
            go_wp2_with (first
              | (go_at_call 24; refine cE.mono ?_; rintro e w3 ⟨e3, xv, rfl⟩
                 have x3 := e3.heap x2
                 clear z0 z1 z2 z3 z4 z5
                 have z0 := cell_ofBlk (i := 0) (v := .int .i64 kind) x3 rfl
                 have z1 := cell_ofBlk (i := 1) (v := .int .i64 from_) x3 rfl
                 have z2 := cell_ofBlk (i := 2) (v := .int .i64 s.slot) x3 rfl
                 have z3 := cell_ofBlk (i := 3) (v := .int .i64 view) x3 rfl
                 have z4 := cell_ofBlk (i := 4) (v := .int .i64 valid) x3 rfl
                 have z5 := cell_ofBlk (i := 5) (v := .slice a value.length c) x3 rfl
                 have cK := hkk w3 e3)
              | (go_at_call 60; refine cK.mono ?_; rintro e w4 ⟨rfl, e4⟩))
            go_ret
            exact ⟨rfl, (e2.trans e3).trans e4⟩
          | some t =>
            simp only [Option.map_some] at hh
            obtain ⟨okt, hkn⟩ := ok.know hr g2' hko
            have hnot : n0 ∉ foot b p F1 F2 F3 := fun hm => by have := h.lt n0 hm; omega
            go_wp2_with (first
              | (go_at_call 24; refine cE.mono ?_; rintro e w3 ⟨e3, xv, rfl⟩
                 have x3 := e3.heap x2
                 clear z0 z1 z2 z3 z4 z5
                 have z0 := cell_ofBlk (i := 0) (v := .int .i64 kind) x3 rfl
                 have z1 := cell_ofBlk (i := 1) (v := .int .i64 from_) x3 rfl
                 have z2 := cell_ofBlk (i := 2) (v := .int .i64 s.slot) x3 rfl
                 have z3 := cell_ofBlk (i := 3) (v := .int .i64 view) x3 rfl
                 have z4 := cell_ofBlk (i := 4) (v := .int .i64 valid) x3 rfl
                 have z5 := cell_ofBlk (i := 5) (v := .slice a value.length c) x3 rfl
                 have cK := hkk w3 e3)
              | (go_at_call 60; refine cK.mono ?_; rintro e w4 ⟨rfl, fq, hC4, hT4, hnew4⟩
                 have x4 := hT4.block n0 hnot _ x3
                 clear z0 z1 z2 z3 z4 z5
                 have z0 := cell_ofBlk (i := 0) (v := .int .i64 kind) x4 rfl))
            · rename_i hk4
              obtain ⟨p4, G1, G2, G3, hfq, h4⟩ := hC4
              have hk : kind ≠ 4 := by simpa using hk4
              have c11 := Ext.ofBlk (i := 11) (v := .map (some p4.ms)) h4.blk rfl
              have y1 := Ext.ofBlk (i := 1) (v := .int .i64 from_) x4 rfl
              have y3 := Ext.ofBlk (i := 3) (v := .int .i64 view) x4 rfl
              have hlk := h4.seen.look from_
              have okn := okt.note hr (by rw [hkn.1]; exact g2')
              clear hkn
              refine wp_region_segs (by kernel_rfl) [] [0, 1, 2, 3, 4, 5, 6, 7, 8, 9, 10, 11, 12, 13, 14, 15] [16] (by decide +kernel) (fun c a d u w h => by cases d <;> exact h) ?_
              simp only [pickO, pickS, nthO, wpSegs]
              repeat (go_big_quiet_step (fail))
              refine wpQuiet_nil ?_
              have h5 := h4.ext (Ext.drew w4)
              obtain ⟨es, hm5, hR5⟩ := h5.seen
              have hmp := (foot_mem (b := b) (p := p4) (F1 := G1) (F2 := G2) (F3 := G3)).2.2.2.2.2.1
              have hnote : t.note (Vt.mk kind from_ s.slot view valid value) = { t with seen := setV t.seen from_ (max ((getV t.seen from_).getD 0) view) } := by simp [St.note, hk]
              rw [hnote] at okn hh
              go_wp2_with (first
                | (at_mapUpdate; refine wpList_update_obj rfl rfl _ _ _ 106 rfl Try.underlying106 Try.underlying3 p4.ms es from_ _ rfl rfl rfl hm5 ?_; intro w6 hr6 hT6
                   have h6 := h5.setSeen hT6 (vs := setV t.seen from_ (max ((getV t.seen from_).getD 0) view)) ⟨_, hr6, RelL.set hR5 rfl⟩
                   have cA := CoreAt.act ⟨_, _, _, _, rfl, h6⟩ okn hA)
                | (go_at_call 61; refine cA.mono ?_; rintro e w7 ⟨rfl, u, oku, hact, hC7⟩))
              go_ret
              subst hh
              refine ⟨rfl, u, oku, hact, CorePost.trans (e2.turn _) (fun _ hk => .inl hk) (CorePost.trans (e3.turn _) (fun _ hk => .inl hk) (CorePost.trans hT4 (hfq ▸ hnew4) (CorePost.trans (((Ext.drew w4).turn _).trans (hT6.mono (by simpa using hmp)) (fun x hx => .inl hx)) (fun _ hk => .inl hk) hC7)))⟩
            · have hk : kind = 4 := by first | assumption | omega | simp_all
              have hnote : t.note (Vt.mk kind from_ s.slot view valid value) = t := by simp [St.note, hk]
              rw [hnote] at hh
              have cA := hC4.act okt hA
              subst hh
              go_wp2_with (go_at_call 61; refine cA.mono ?_; rintro e w7 ⟨rfl, u, oku, hact, hC7⟩)
              go_ret
              exact ⟨rfl, u, oku, hact, CorePost.trans (e2.turn _) (fun _ hk => .inl hk) (CorePost.trans (e3.turn _) (fun _ hk => .inl hk) (CorePost.trans hT4 hnew4 hC7))⟩
  · have hno : o = none := by rw [← ho]; simp [St.hear, g1]
    subst hno
    have g1' : (slot != s.slot) = true := by simpa using g1
    go_enter Try.func18, Try.ntmps18
    go_wp2_with fail
    refine wp_region_segs (by kernel_rfl) [] [0, 1, 2, 3, 4, 5, 6, 7, 8, 9, 10, 11, 12, 13, 14, 15, 16, 17, 18, 19, 20, 21, 22, 23, 24, 25, 26, 27, 28] [] (by decide +kernel) (fun c a d u w h => by cases d <;> exact h) ?_
    simp only [pickO, pickS, nthO, wpSegs]
    repeat (go_big_quiet_step (fail))
    refine wpQuiet_nil ?_
    refine wpList_nil ?_
    go_wp2_with fail
    go_ret
    exact ⟨rfl, e1.trans (Ext.drew _)⟩
end
end Go.Proofs.Ytiofkiaibcmdhaa
