import Derived.Test.YtiofkiaibcmdhaaV1
namespace Go.Proofs.Ytiofkiaibcmdhaa
open Go Go.RowKit

theorem ToldAt.look {w : World} {q : Nat} {t : Told} (h : ToldAt w q t) (who : Int) : ∃ (a : Option Addr) (n c : Nat) (bo : Bool),
    (∀ x, Sem.run Try.prog (Instr.lookup 108 (.map (some q)) (.int .i64 who) true) (later w x) = .ok (.tuple #[.slice a n c, .bool bo]) (later w x)) ∧
    ((bo = false ∧ getV t who = none) ∨ ∃ l, bo = true ∧ getV t who = some l ∧ n = l.length ∧ BB w a l) := by
  obtain ⟨es, hq, hR⟩ := h
  have lk : ∀ x, _ := fun x => run_lookup_obj (P := Try.prog) (w := later w x) true who Try.underlying108 Try.underlying3 (Try.zeroValue29 _) (later_heap hq)
  rcases hR.get who with ⟨g1, g2⟩ | ⟨v, l, g1, g2, ⟨a, c, rfl, hb⟩, _⟩
  · refine ⟨none, 0, 0, false, fun x => ?_, .inl ⟨rfl, g2⟩⟩
    have := lk x
    simpa [g1] using this
  · refine ⟨a, l.length, c, true, fun x => ?_, .inr ⟨l, rfl, g2, rfl, hb⟩⟩
    have := lk x
    simpa [g1] using this

theorem Vt.right_spec {v : Vt} (h : v.right = true) : (1 ≤ v.kind ∧ v.kind ≤ 5) ∧ (1 ≤ v.from_ ∧ v.from_ ≤ 64) ∧ (0 ≤ v.slot ∧ v.slot ≤ 256) ∧ (0 ≤ v.view ∧ v.view ≤ 1048576) ∧ (-1 ≤ v.valid ∧ v.valid ≤ 1048576) ∧ v.value.length ≤ 4096 := by
  simp only [Vt.right, Bool.and_eq_true, decide_eq_true_eq] at h
  omega

/-- A vote's six cells. -/
def voteCells (v : Vt) (a : Option Addr) (c : Nat) : Array Value := #[.int .i64 v.kind, .int .i64 v.from_, .int .i64 v.slot, .int .i64 v.view, .int .i64 v.valid, .slice a v.value.length c]

section
variable {fa : Nat} {w : World} {b : Nat} {p : Ptr} {F1 F2 F3 : List Nat} {s : St} {okf : Bytes → Bool}

set_option maxRecDepth 100000 in
set_option maxHeartbeats 1000000 in
theorem CoreIn.know_propose (h : CoreIn fa w b p F1 F2 F3 s) (ok : s.Ok) (from_ slot view valid : Int) (value : Bytes) (a : Option Addr) (c : Nat) (hb : BS w a value) (hv : 0 ≤ view ∧ view ≤ 1048576) (hl : value.length ≤ 4096) :
    Calls Try.prog 60 #[.pointer (some ⟨b, 0, none⟩), .agg #[.int .i64 1, .int .i64 from_, .int .i64 slot, .int .i64 view, .int .i64 valid, .slice a value.length c]] w
      (StepPost fa b (foot b p F1 F2 F3) (if (getV s.proposals view).isSome || from_ != s.proposer view then none else some { s with proposals := setV s.proposals view (value, valid) }) w) := by
  obtain ⟨w1, hw1⟩ : ∃ w1, w.alloc (.cells #[.int .i64 1, .int .i64 from_, .int .i64 slot, .int .i64 view, .int .i64 valid, .slice a value.length c] 31) = w1 := ⟨_, rfl⟩
  obtain ⟨n0, hn0⟩ : ∃ n0, w.heap.size = n0 := ⟨_, rfl⟩
  have e1 : Ext w w1 := by rw [← hw1]; exact ext_of_grown (World.grownBy_alloc w _ none)
  have x1 : w1.heap[n0]? = some (.cells #[.int .i64 1, .int .i64 from_, .int .i64 slot, .int .i64 view, .int .i64 valid, .slice a value.length c] 31) := by rw [← hw1, ← hn0]; exact heap_alloc_new w _
  have hn1 : w1.heap.size = n0 + 1 := by rw [← hw1, ← hn0]; simp
  have y0 := cell_ofBlk (i := 0) (v := .int .i64 1) x1 rfl
  have y3 := Ext.ofBlk (i := 3) (v := .int .i64 view) x1 rfl
  have h1 := h.ext e1
  have c7 := Ext.ofBlk (i := 7) (v := .map (some p.mp)) h1.blk rfl
  obtain ⟨al, nl, cl, z, bo, hlk, hcase⟩ := h1.props.look view
  obtain ⟨o, ho⟩ : ∃ o, (if (getV s.proposals view).isSome || from_ != s.proposer view then none else some { s with proposals := setV s.proposals view (value, valid) }) = o := ⟨_, rfl⟩
  rw [ho]
  go_enter Try.func60, Try.ntmps60
  go_wp2_with fail
  refine wp_region_segs (by kernel_rfl) [([0, 1, 2, 3, 4, 5, 6, 7, 8, 9], 10), ([], 11)] [12] [] (by decide +kernel) (fun c a d u w h => by cases d <;> exact h) ?_
  simp only [pickO, pickS, nthO, wpSegs]
  repeat (go_big_quiet_step (fail))
  refine wpQuiet_nil ?_
  refine live_step rfl (fun K hK => ?_)
  go_simp
  obtain ⟨w2, hw2⟩ : ∃ w2, (w1.alloc (Obj.cells #[Value.slice none 0 0, Value.int IntKind.i64 0] 116)).drew = w2 := ⟨_, rfl⟩
  have e2 : Ext w1.drew w2 := by rw [← hw2]; exact ext_of_grown (World.grownBy_alloc w1.drew _ none)
  have x2 : w2.heap[n0 + 1]? = some (.cells #[Value.slice none 0 0, Value.int IntKind.i64 0] 116) := by rw [← hw2, ← hn1]; exact heap_alloc_new w1 _
  have x3 := cell_ofBlk (i := 0) (v := .slice none 0 0) x2 rfl
  have x4 := cell_ofBlk (i := 1) (v := .int .i64 0) x2 rfl
  have x5 := frozen_ofBlk (i := 0) x2
  have x6 := frozen_ofBlk (i := 1) x2
  rw [hw2]
  refine hK _ w2 w1.drew (Ext.refl _) e2 ?_
  clear hK K
  refine wpQuiet_nil ?_
  refine live_step rfl (fun K hK => ?_)
  go_simp
  obtain ⟨w3, hw3⟩ : ∃ w3, ((w2.setCell ⟨n0 + 1, 0, none⟩ (.slice al nl cl)).setCell ⟨n0 + 1, 1, none⟩ (.int .i64 z)) = w3 := ⟨_, rfl⟩
  have hsz : w1.drew.heap.size ≤ n0 + 1 := by rw [← hn1]; exact Nat.le_refl _
  have e3 : Ext w1.drew w3 := by rw [← hw3]; exact (e2.set hsz _).set hsz _
  rw [hw3]
  refine hK _ w3 w1.drew (Ext.refl _) e3 ?_
  clear hK K
  repeat (go_big_quiet_step (fail))
  refine wpQuiet_nil ?_
  refine wpList_nil ?_
  have e13 : Ext w1 w3 := (Ext.drew w1).trans e3
  have e03 := e1.trans e13
  have h3 := h.ext e03
  clear hw2 hw3 x2 x3 x4 x5 x6 e2 e3 c7 y0 y3 hlk
  have y1 := Ext.ofBlk (i := 1) (v := .int .i64 from_) (e13.heap x1) rfl
  have y3 := Ext.ofBlk (i := 3) (v := .int .i64 view) (e13.heap x1) rfl
  rcases hcase with ⟨rfl, hg, rfl, rfl⟩ | ⟨l, rfl, hg, rfl, _⟩
  · go_wp2_with fail
    refine wp_region_segs (by kernel_rfl) [([0, 1, 2, 3, 4, 5, 6], 7)] [8, 9] [] (by decide +kernel) (fun c a d u w h => by cases d <;> exact h) ?_
    simp only [pickO, pickS, nthO, wpSegs]
    repeat (go_big_quiet_step (fail))
    refine wpQuiet_nil ?_
    refine live_step rfl (fun K hK => ?_)
    go_simp
    refine ((h3.ext (Ext.drew w3)).proposer ok view hv.1 hv.2).mono ?_
    rintro e w4 ⟨rfl, e4⟩
    refine hK _ w4 w4 e4 (Ext.refl _) ?_
    clear hK K
    repeat (go_big_quiet_step (fail))
    refine wpQuiet_nil ?_
    refine wpList_nil ?_
    have e14 := (e13.trans (Ext.drew w3)).trans e4
    clear y1 y3
    by_cases hme : from_ = s.proposer view
    · have hoo : o = some { s with proposals := setV s.proposals view (value, valid) } := by rw [← ho]; simp [hg, hme]
      subst hoo
      have hme' : (from_ != s.proposer view) = false := by simpa using hme
      rw [hme']
      go_wp2_with fail
      have h4 := h1.ext e14
      have c7 := Ext.ofBlk (i := 7) (v := .map (some p.mp)) h4.blk rfl
      have y3 := Ext.ofBlk (i := 3) (v := .int .i64 view) (e14.heap x1) rfl
      have y4 := Ext.ofBlk (i := 4) (v := .int .i64 valid) (e14.heap x1) rfl
      have y5 := Ext.ofBlk (i := 5) (v := .slice a value.length c) (e14.heap x1) rfl
      refine wp_region_segs (by kernel_rfl) [([0, 1, 2, 3, 4, 5, 6, 7, 9, 10], 8)] [11] [12] (by decide +kernel) (fun c a d u w h => by cases d <;> exact h) ?_
      simp only [pickO, pickS, nthO, wpSegs]
      repeat (go_big_quiet_step (fail))
      refine wpQuiet_nil ?_
      refine live_step rfl (fun K hK => ?_)
      go_simp
      refine (clone_any a _ c value _ rfl (hb.ext ((e1.trans e14).trans (Ext.drew w4))) (by omega)).mono ?_
      rintro e w5 ⟨a', c', rfl, hb', hE5⟩
      refine hK _ w5 w5 hE5 (Ext.refl _) ?_
      clear hK K
      repeat (go_big_quiet_step (fail))
      refine wpQuiet_nil ?_
      have e5 := ((e1.trans e14).trans (Ext.drew w4)).trans hE5
      have h5 := h.ext e5
      obtain ⟨es, hm5, hR5⟩ := h5.props
      go_wp2_with (at_mapUpdate; refine wpList_update_obj rfl rfl _ _ _ 104 rfl Try.underlying104 Try.underlying3 p.mp es view _ rfl rfl rfl hm5 ?_; intro w6 hr6 hT6)
      go_ret
      have hmp := (foot_mem (b := b) (p := p) (F1 := F1) (F2 := F2) (F3 := F3)).2.1
      have hnb := h5.one hmp
      exact ⟨rfl, CorePost.trans (e5.turn _) (fun _ hk => .inl hk) ⟨_, ⟨p, F1, F2, F3, rfl, h5.setProps hT6 ⟨_, hr6, RelL.set (hR5.mono fun _ _ _ _ hx => hx.turn hT6 hnb) (x := (value, valid)) ⟨a', c', rfl, hb'.turn hT6 hnb⟩⟩⟩, hT6.mono (by simpa using hmp), fun _ hk => .inl hk⟩⟩
    · have hno : o = none := by rw [← ho]; simp [hme]
      subst hno
      have hme' : (from_ != s.proposer view) = true := by simpa using hme
      rw [hme']
      go_wp2_with fail
      go_ret
      exact ⟨rfl, e1.trans e14⟩
  · have hno : o = none := by rw [← ho]; simp [hg]
    subst hno
    go_wp2_with fail
    refine wp_region_segs (by kernel_rfl) [([0, 1, 2, 3, 4, 5, 6], 7)] [8, 9] [] (by decide +kernel) (fun c a d u w h => by cases d <;> exact h) ?_
    simp only [pickO, pickS, nthO, wpSegs]
    repeat (go_big_quiet_step (fail))
    refine wpQuiet_nil ?_
    refine live_skip rfl ?_
    go_simp
    repeat (go_big_quiet_step (fail))
    refine wpQuiet_nil ?_
    refine wpList_nil ?_
    go_wp2_with fail
    go_ret
    exact ⟨rfl, e03.trans (Ext.drew _)⟩

set_option maxRecDepth 100000 in
set_option maxHeartbeats 1000000 in
theorem CoreIn.know_prepare (h : CoreIn fa w b p F1 F2 F3 s) (from_ slot view valid : Int) (value : Bytes) (a : Option Addr) (c : Nat) (hb : BS w a value) (hl : value.length ≤ 4096) :
    Calls Try.prog 60 #[.pointer (some ⟨b, 0, none⟩), .agg #[.int .i64 2, .int .i64 from_, .int .i64 slot, .int .i64 view, .int .i64 valid, .slice a value.length c]] w
      (StepPost fa b (foot b p F1 F2 F3) (if (at2 s.prepares view from_).isSome then none else some { s with prepares := Ytiofkiaibcmdhaa.set2 s.prepares view from_ value }) w) := by
  obtain ⟨w1, hw1⟩ : ∃ w1, w.alloc (.cells #[.int .i64 2, .int .i64 from_, .int .i64 slot, .int .i64 view, .int .i64 valid, .slice a value.length c] 31) = w1 := ⟨_, rfl⟩
  obtain ⟨n0, hn0⟩ : ∃ n0, w.heap.size = n0 := ⟨_, rfl⟩
  have e1 : Ext w w1 := by rw [← hw1]; exact ext_of_grown (World.grownBy_alloc w _ none)
  have x1 : w1.heap[n0]? = some (.cells #[.int .i64 2, .int .i64 from_, .int .i64 slot, .int .i64 view, .int .i64 valid, .slice a value.length c] 31) := by rw [← hw1, ← hn0]; exact heap_alloc_new w _
  have y0 := cell_ofBlk (i := 0) (v := .int .i64 2) x1 rfl
  have h1 := h.ext e1
  obtain ⟨o, ho⟩ : ∃ o, (if (at2 s.prepares view from_).isSome then none else some { s with prepares := Ytiofkiaibcmdhaa.set2 s.prepares view from_ value }) = o := ⟨_, rfl⟩
  rw [ho]
  go_enter Try.func60, Try.ntmps60
  go_wp2_with fail
  have c8 := Ext.ofBlk (i := 8) (v := .map (some p.mpr)) h1.blk rfl
  have y1 := Ext.ofBlk (i := 1) (v := .int .i64 from_) x1 rfl
  have y3 := Ext.ofBlk (i := 3) (v := .int .i64 view) x1 rfl
  have y5 := Ext.ofBlk (i := 5) (v := .slice a value.length c) x1 rfl
  refine wp_region_segs (by kernel_rfl) [] [0, 1, 2, 3, 4, 5, 6, 7, 8, 9] [10, 11] (by decide +kernel) (fun c a d u w h => by cases d <;> exact h) ?_
  simp only [pickO, pickS, nthO, wpSegs]
  repeat (go_big_quiet_step (fail))
  refine wpQuiet_nil ?_
  have e2 := e1.trans (Ext.drew w1)
  have cS := (h.ext e2).set_preps view from_ a c value (hb.ext e2) hl
  cases hat : (at2 s.prepares view from_).isSome with
  | true =>
    rw [hat] at cS ho
    simp only [if_true] at ho
    subst ho
    go_wp2_with (go_at_call 87; refine cS.mono ?_; rintro e w6 ⟨rfl, hC⟩)
    go_ret
    exact ⟨rfl, e2.trans hC⟩
  | false =>
    rw [hat] at cS ho
    simp only [Bool.false_eq_true, if_false] at ho
    subst ho
    go_wp2_with (go_at_call 87; refine cS.mono ?_; rintro e w6 ⟨rfl, hC⟩)
    go_ret
    exact ⟨rfl, CorePost.trans (e2.turn _) (fun _ hk => .inl hk) hC⟩
set_option maxRecDepth 100000 in
set_option maxHeartbeats 1000000 in
theorem CoreIn.know_commit (h : CoreIn fa w b p F1 F2 F3 s) (from_ slot view valid : Int) (value : Bytes) (a : Option Addr) (c : Nat) (hb : BS w a value) (hl : value.length ≤ 4096) :
    Calls Try.prog 60 #[.pointer (some ⟨b, 0, none⟩), .agg #[.int .i64 3, .int .i64 from_, .int .i64 slot, .int .i64 view, .int .i64 valid, .slice a value.length c]] w
      (StepPost fa b (foot b p F1 F2 F3) (if (at2 s.commits view from_).isSome then none else some { s with commits := Ytiofkiaibcmdhaa.set2 s.commits view from_ value }) w) := by
  obtain ⟨w1, hw1⟩ : ∃ w1, w.alloc (.cells #[.int .i64 3, .int .i64 from_, .int .i64 slot, .int .i64 view, .int .i64 valid, .slice a value.length c] 31) = w1 := ⟨_, rfl⟩
  obtain ⟨n0, hn0⟩ : ∃ n0, w.heap.size = n0 := ⟨_, rfl⟩
  have e1 : Ext w w1 := by rw [← hw1]; exact ext_of_grown (World.grownBy_alloc w _ none)
  have x1 : w1.heap[n0]? = some (.cells #[.int .i64 3, .int .i64 from_, .int .i64 slot, .int .i64 view, .int .i64 valid, .slice a value.length c] 31) := by rw [← hw1, ← hn0]; exact heap_alloc_new w _
  have y0 := cell_ofBlk (i := 0) (v := .int .i64 3) x1 rfl
  have h1 := h.ext e1
  obtain ⟨o, ho⟩ : ∃ o, (if (at2 s.commits view from_).isSome then none else some { s with commits := Ytiofkiaibcmdhaa.set2 s.commits view from_ value }) = o := ⟨_, rfl⟩
  rw [ho]
  go_enter Try.func60, Try.ntmps60
  go_wp2_with fail
  have c8 := Ext.ofBlk (i := 9) (v := .map (some p.mc)) h1.blk rfl
  have y1 := Ext.ofBlk (i := 1) (v := .int .i64 from_) x1 rfl
  have y3 := Ext.ofBlk (i := 3) (v := .int .i64 view) x1 rfl
  have y5 := Ext.ofBlk (i := 5) (v := .slice a value.length c) x1 rfl
  refine wp_region_segs (by kernel_rfl) [] [0, 1, 2, 3, 4, 5, 6, 7, 8, 9] [10, 11] (by decide +kernel) (fun c a d u w h => by cases d <;> exact h) ?_
  simp only [pickO, pickS, nthO, wpSegs]
  repeat (go_big_quiet_step (fail))
  refine wpQuiet_nil ?_
  have e2 := e1.trans (Ext.drew w1)
  have cS := (h.ext e2).set_comms view from_ a c value (hb.ext e2) hl
  cases hat : (at2 s.commits view from_).isSome with
  | true =>
    rw [hat] at cS ho
    simp only [if_true] at ho
    subst ho
    go_wp2_with (go_at_call 87; refine cS.mono ?_; rintro e w6 ⟨rfl, hC⟩)
    go_ret
    exact ⟨rfl, e2.trans hC⟩
  | false =>
    rw [hat] at cS ho
    simp only [Bool.false_eq_true, if_false] at ho
    subst ho
    go_wp2_with (go_at_call 87; refine cS.mono ?_; rintro e w6 ⟨rfl, hC⟩)
    go_ret
    exact ⟨rfl, CorePost.trans (e2.turn _) (fun _ hk => .inl hk) hC⟩
set_option maxRecDepth 100000 in
set_option maxHeartbeats 1000000 in
theorem CoreIn.know_turn (h : CoreIn fa w b p F1 F2 F3 s) (from_ slot view valid : Int) (value : Bytes) (a : Option Addr) (c : Nat) (hb : BS w a value) (hl : value.length ≤ 4096) :
    Calls Try.prog 60 #[.pointer (some ⟨b, 0, none⟩), .agg #[.int .i64 5, .int .i64 from_, .int .i64 slot, .int .i64 view, .int .i64 valid, .slice a value.length c]] w
      (StepPost fa b (foot b p F1 F2 F3) (if (at2 s.turns view from_).isSome then none else some { s with turns := Ytiofkiaibcmdhaa.set2 s.turns view from_ value }) w) := by
  obtain ⟨w1, hw1⟩ : ∃ w1, w.alloc (.cells #[.int .i64 5, .int .i64 from_, .int .i64 slot, .int .i64 view, .int .i64 valid, .slice a value.length c] 31) = w1 := ⟨_, rfl⟩
  obtain ⟨n0, hn0⟩ : ∃ n0, w.heap.size = n0 := ⟨_, rfl⟩
  have e1 : Ext w w1 := by rw [← hw1]; exact ext_of_grown (World.grownBy_alloc w _ none)
  have x1 : w1.heap[n0]? = some (.cells #[.int .i64 5, .int .i64 from_, .int .i64 slot, .int .i64 view, .int .i64 valid, .slice a value.length c] 31) := by rw [← hw1, ← hn0]; exact heap_alloc_new w _
  have y0 := cell_ofBlk (i := 0) (v := .int .i64 5) x1 rfl
  have h1 := h.ext e1
  obtain ⟨o, ho⟩ : ∃ o, (if (at2 s.turns view from_).isSome then none else some { s with turns := Ytiofkiaibcmdhaa.set2 s.turns view from_ value }) = o := ⟨_, rfl⟩
  rw [ho]
  go_enter Try.func60, Try.ntmps60
  go_wp2_with fail
  have c8 := Ext.ofBlk (i := 10) (v := .map (some p.mt)) h1.blk rfl
  have y1 := Ext.ofBlk (i := 1) (v := .int .i64 from_) x1 rfl
  have y3 := Ext.ofBlk (i := 3) (v := .int .i64 view) x1 rfl
  have y5 := Ext.ofBlk (i := 5) (v := .slice a value.length c) x1 rfl
  refine wp_region_segs (by kernel_rfl) [] [0, 1, 2, 3, 4, 5, 6, 7, 8, 9] [10, 11] (by decide +kernel) (fun c a d u w h => by cases d <;> exact h) ?_
  simp only [pickO, pickS, nthO, wpSegs]
  repeat (go_big_quiet_step (fail))
  refine wpQuiet_nil ?_
  have e2 := e1.trans (Ext.drew w1)
  have cS := (h.ext e2).set_turns view from_ a c value (hb.ext e2) hl
  cases hat : (at2 s.turns view from_).isSome with
  | true =>
    rw [hat] at cS ho
    simp only [if_true] at ho
    subst ho
    go_wp2_with (go_at_call 87; refine cS.mono ?_; rintro e w6 ⟨rfl, hC⟩)
    go_ret
    exact ⟨rfl, e2.trans hC⟩
  | false =>
    rw [hat] at cS ho
    simp only [Bool.false_eq_true, if_false] at ho
    subst ho
    go_wp2_with (go_at_call 87; refine cS.mono ?_; rintro e w6 ⟨rfl, hC⟩)
    go_ret
    exact ⟨rfl, CorePost.trans (e2.turn _) (fun _ hk => .inl hk) hC⟩
set_option maxRecDepth 100000 in
set_option maxHeartbeats 1000000 in
theorem CoreIn.know_decided (h : CoreIn fa w b p F1 F2 F3 s) (from_ slot view valid : Int) (value : Bytes) (a : Option Addr) (c : Nat) (hb : BS w a value) (hl : value.length ≤ 4096) :
    Calls Try.prog 60 #[.pointer (some ⟨b, 0, none⟩), .agg #[.int .i64 4, .int .i64 from_, .int .i64 slot, .int .i64 view, .int .i64 valid, .slice a value.length c]] w
      (StepPost fa b (foot b p F1 F2 F3) (if (getV s.deciders from_).isSome then none else some { s with deciders := setV s.deciders from_ value }) w) := by
  obtain ⟨w1, hw1⟩ : ∃ w1, w.alloc (.cells #[.int .i64 4, .int .i64 from_, .int .i64 slot, .int .i64 view, .int .i64 valid, .slice a value.length c] 31) = w1 := ⟨_, rfl⟩
  obtain ⟨n0, hn0⟩ : ∃ n0, w.heap.size = n0 := ⟨_, rfl⟩
  have e1 : Ext w w1 := by rw [← hw1]; exact ext_of_grown (World.grownBy_alloc w _ none)
  have x1 : w1.heap[n0]? = some (.cells #[.int .i64 4, .int .i64 from_, .int .i64 slot, .int .i64 view, .int .i64 valid, .slice a value.length c] 31) := by rw [← hw1, ← hn0]; exact heap_alloc_new w _
  have y0 := cell_ofBlk (i := 0) (v := .int .i64 4) x1 rfl
  have h1 := h.ext e1
  obtain ⟨o, ho⟩ : ∃ o, (if (getV s.deciders from_).isSome then none else some { s with deciders := setV s.deciders from_ value }) = o := ⟨_, rfl⟩
  rw [ho]
  go_enter Try.func60, Try.ntmps60
  go_wp2_with fail
  have c12 := Ext.ofBlk (i := 12) (v := .map (some p.md)) h1.blk rfl
  have y1 := Ext.ofBlk (i := 1) (v := .int .i64 from_) x1 rfl
  obtain ⟨al, nl, cl, bo, hlk, hcase⟩ := h1.decs.look from_
  refine wp_region_segs (by kernel_rfl) [] [0, 1, 2, 3, 4, 5, 6, 7, 8, 9, 10, 11] [] (by decide +kernel) (fun c a d u w h => by cases d <;> exact h) ?_
  simp only [pickO, pickS, nthO, wpSegs]
  repeat (go_big_quiet_step (fail))
  refine wpQuiet_nil ?_
  refine wpList_nil ?_
  have e2 := e1.trans (Ext.drew w1)
  rcases hcase with ⟨rfl, hg⟩ | ⟨l, rfl, hg, _, _⟩
  · have hoo : o = some { s with deciders := setV s.deciders from_ value } := by rw [← ho]; simp [hg]
    subst hoo
    go_wp2_with fail
    have y5 := Ext.ofBlk (i := 5) (v := .slice a value.length c) x1 rfl
    refine wp_region_segs (by kernel_rfl) [([0, 1, 2, 3, 4, 5, 6, 7], 8)] [] [9] (by decide +kernel) (fun c a d u w h => by cases d <;> exact h) ?_
    simp only [pickO, pickS, nthO, wpSegs]
    repeat (go_big_quiet_step (fail))
    refine wpQuiet_nil ?_
    refine live_step rfl (fun K hK => ?_)
    go_simp
    refine (clone_any a _ c value _ rfl (hb.ext (e2.trans (Ext.drew _))) (by omega)).mono ?_
    rintro e w5 ⟨a', c', rfl, hb', hE5⟩
    refine hK _ w5 w5 hE5 (Ext.refl _) ?_
    clear hK K
    refine wpQuiet_nil ?_
    have e5 := (e2.trans (Ext.drew _)).trans hE5
    have h5 := h.ext e5
    obtain ⟨es, hm5, hR5⟩ := h5.decs
    go_wp2_with (at_mapUpdate; refine wpList_update_obj rfl rfl _ _ _ 108 rfl Try.underlying108 Try.underlying3 p.md es from_ _ rfl rfl rfl hm5 ?_; intro w6 hr6 hT6)
    go_ret
    have hmp := (foot_mem (b := b) (p := p) (F1 := F1) (F2 := F2) (F3 := F3)).2.2.2.2.2.2.1
    have hnb := h5.one hmp
    exact ⟨rfl, CorePost.trans (e5.turn _) (fun _ hk => .inl hk) ⟨_, ⟨p, F1, F2, F3, rfl, h5.setDecs hT6 ⟨_, hr6, RelL.set (hR5.mono fun _ _ _ _ hx => hx.turn hT6 hnb) ⟨a', c', rfl, hb'.turn hT6 hnb⟩⟩⟩, hT6.mono (by simpa using hmp), fun _ hk => .inl hk⟩⟩
  · have hoo : o = none := by rw [← ho]; simp [hg]
    subst hoo
    go_wp2_with fail
    go_ret
    exact ⟨rfl, e2⟩

/-- **know**: what a peer told within its bounds. -/
theorem CoreIn.know_of (h : CoreIn fa w b p F1 F2 F3 s) (ok : s.Ok) (v : Vt) (hr : v.right = true) (a : Option Addr) (c : Nat) (hb : BS w a v.value) :
    Calls Try.prog 60 #[.pointer (some ⟨b, 0, none⟩), .agg (voteCells v a c)] w (StepPost fa b (foot b p F1 F2 F3) (s.know v) w) := by
  obtain ⟨h1, h2, h3, h4, h5, h6⟩ := Vt.right_spec hr
  obtain ⟨kind, from_, slot, view, valid, value⟩ := v
  simp only at h1 h2 h3 h4 h5 h6 hb
  have hk : kind = 1 ∨ kind = 2 ∨ kind = 3 ∨ kind = 4 ∨ kind = 5 := by omega
  rcases hk with rfl | rfl | rfl | rfl | rfl
  · exact h.know_propose ok from_ slot view valid value a c hb h4 h6
  · exact h.know_prepare from_ slot view valid value a c hb h6
  · exact h.know_commit from_ slot view valid value a c hb h6
  · exact h.know_decided from_ slot view valid value a c hb h6
  · exact h.know_turn from_ slot view valid value a c hb h6
end
end Go.Proofs.Ytiofkiaibcmdhaa
