import Derived.Test.YtiofkiaibcmdhaaVotes
import Derived.Laws.AppendOwnNone
namespace Go.Proofs.Ytiofkiaibcmdhaa
open Go Go.RowKit

/-- An append of votes that a call handed back. -/
theorem wpList_append_own_votes {ops : Array Oper} {rest : List Oper} {o : Oper} {a : Act} {Q : Exit → Act → World → Prop} {w : World} (hgd : o.guard = none) (s x : Operand)
    (ho : o.op = .call { callee := .builtin .append, args := #[s, x], argTypes := #[42, 42] }) (base : Nat) (v : Value) (l : List Sent) (hs : a.eval s = v) (hown : OV w base v l) (base2 : Nat) (v2 : Value) (m : List Sent) (hx : a.eval x = v2) (hsrc : OV w base2 v2 m) (hb2 : base ≤ base2)
    (hlen : l.length + m.length ≤ 10000000) (hbase : base ≤ w.heap.size)
    (h : ∀ v' w', OV w' base v' (l ++ m) → w.grownBy w' v.ownBlock → wpList Try.prog ops Q rest (a.put o.dst v') w') : wpList Try.prog ops Q (o :: rest) a w := by
  have hrow := hsrc.row
  rcases hrow.2 with ⟨rfl, h0⟩ | ⟨g, cap, cur, rfl, _⟩
  · obtain rfl : m = [] := List.eq_nil_of_length_eq_zero h0
    obtain ⟨i, hi, hz, hsz, hby⟩ := info_parts info31
    refine wpList_append_own_none hgd s x 42 ho base 31 i 6 Try.underlying42 hi v l.length _ hs hown.row hx (h v w (by simpa using hown) ⟨rfl, rfl, rfl, Nat.le_refl _, fun _ _ _ => rfl⟩)
  · exact wpList_append_votes hgd s x ho base v l m hs hown ⟨g, 0, none⟩ m.length cap hx rfl (hrow.cells (g := g) rfl) hsrc.vals (fun x hx q hq => Nat.le_trans hb2 (hsrc.loc x hx q hq)) hlen hbase h

/-- What it tells. -/
def St.says (s : St) : List Vt :=
  (if s.decided then ⟨4, s.me, s.slot, 0, -1, s.value⟩ else ⟨5, s.me, s.slot, s.view, -1, []⟩) ::
  ((match getV s.proposals s.view with
    | some q => if !s.decided && s.proposer s.view == s.me then [⟨1, s.me, s.slot, s.view, q.2, q.1⟩] else []
    | none => []) ++ (s.mine 2 s.prepares ++ s.mine 3 s.commits))

theorem mine_length (s : St) (kind : Int) (m : List (Int × Told)) : (s.mine kind m).length ≤ m.length := by
  rw [mine_eq]
  have := List.length_filterMap_le (mineF s kind m) (isort (m.map (·.1)))
  rw [(isort_perm _).length_eq, List.length_map] at this
  exact this

section
variable {fa : Nat} {w : World} {b : Nat} {fp : List Nat} {s : St} {okf : Bytes → Bool}

set_option maxRecDepth 100000 in
set_option maxHeartbeats 4000000 in
theorem CoreAt.says_of (h : CoreAt fa w b fp s) (ok : s.Ok) : Calls Try.prog 23 #[.pointer (some ⟨b, 0, none⟩)] w (SaysPost s.says w) := by
  obtain ⟨p, F1, F2, F3, rfl, h⟩ := h
  have hl1 := ok.preps.length
  have hl2 := ok.comms.length
  have hm1 := mine_length s 2 s.prepares
  have hm2 := mine_length s 3 s.commits
  have d15 := cell_ofBlk (i := 15) (v := .bool s.decided) h.blk rfl
  obtain ⟨vs, hvs⟩ : ∃ vs, s.says = vs := ⟨_, rfl⟩
  rw [hvs]
  cases hd : s.decided with
  | true =>
    rw [hd] at d15
    have c1 := Ext.ofBlk (i := 1) (v := .int .i64 s.me) h.blk rfl
    have c2 := Ext.ofBlk (i := 2) (v := .int .i64 s.slot) h.blk rfl
    have c16 := Ext.ofBlk (i := 16) (v := .slice p.av s.value.length p.cv) h.blk rfl
    have hvl := ok.value
    go_enter Try.func23, Try.ntmps23
    go_wp2_with fail
    refine wp_region_segs (by kernel_rfl) [([0, 1, 2, 3, 4, 5, 6, 7, 8, 9, 10, 11, 12], 13), ([14], 15)] [] [16, 17] (by decide +kernel) (fun c a d u w h => by cases d <;> exact h) ?_
    simp only [pickO, pickS, nthO, wpSegs]
    repeat (go_big_quiet_step (fail))
    refine wpQuiet_nil ?_
    refine live_step rfl (fun K hK => ?_)
    go_simp
    refine (clone_loc p.av _ p.cv s.value _ rfl (h.value.ext (Ext.drew w)).bs (by omega)).mono ?_
    rintro e w3 ⟨a', c', rfl, hb', hE3, hloc⟩
    refine hK _ w3 w3 hE3 (Ext.refl _) ?_
    clear hK K
    repeat (go_big_quiet_step (fail))
    refine wpQuiet_nil ?_
    refine live_step rfl (fun K hK => ?_)
    go_simp
    obtain ⟨w4, hw4⟩ : ∃ w4, w3.alloc (.cells #[.int .i64 4, .int .i64 s.me, .int .i64 s.slot, .int .i64 0, .int .i64 (-1), .slice a' s.value.length c'] 31) = w4 := ⟨_, rfl⟩
    have e34 : Ext w3 w4 := by rw [← hw4]; exact ext_of_grown (World.grownBy_alloc w3 _ none)
    have hblk : w4.heap[w3.heap.size]? = some (.cells (voteCells ⟨4, s.me, s.slot, 0, -1, s.value⟩ a' c') 31) := by rw [← hw4]; exact heap_alloc_new w3 _
    have er4 : Ext w w4 := ((Ext.drew _).trans hE3).trans e34
    rw [hw4]
    refine hK _ w4 w4 e34 (Ext.refl _) ?_
    clear hK K hw4
    refine wpQuiet_nil ?_
    refine wpList_append_votes rfl (.tmp 12) (.tmp 27) rfl w.heap.size _ [] [⟨⟨4, s.me, s.slot, 0, -1, s.value⟩, a', c'⟩] rfl (OV.nil _ _) ⟨w3.heap.size, 0, none⟩ 1 1 rfl rfl (one_vote ⟨⟨4, s.me, s.slot, 0, -1, s.value⟩, a', c'⟩ hblk) (by intro y hy; simp only [List.mem_singleton] at hy; subst hy; exact hb'.ext e34) (by intro y hy q hq; simp only [List.mem_singleton] at hy; subst hy; exact hloc q hq) (by simp) er4.size ?_
    intro v5 w5 hO5 hg5
    have er5 : Ext w w5 := er4.own hg5 (fun r hr => by cases hr)
    clear d15 c1 c2 c16
    have hS5 := h.ext er5
    have c4 := Ext.ofBlk (i := 4) (v := .int .i64 s.view) hS5.blk rfl
    have c7 := Ext.ofBlk (i := 7) (v := .map (some p.mp)) hS5.blk rfl
    obtain ⟨al, nl, cl, z, bo, hlk, hcase⟩ := hS5.props.look s.view
    go_wp2_with fail
    refine wp_region_segs (by kernel_rfl) [([0, 1, 2, 3, 4, 5, 6, 7, 8, 9, 10, 11], 12), ([], 13)] [14] [] (by decide +kernel) (fun c a d u w h => by cases d <;> exact h) ?_
    simp only [pickO, pickS, nthO, wpSegs]
    repeat (go_big_quiet_step (fail))
    refine wpQuiet_nil ?_
    refine live_step rfl (fun K hK => ?_)
    go_simp
    obtain ⟨m1, hm1'⟩ : ∃ m1, (w5.alloc (Obj.cells #[Value.slice none 0 0, Value.int IntKind.i64 0] 116)).drew = m1 := ⟨_, rfl⟩
    obtain ⟨n1, hn1⟩ : ∃ n1, w5.heap.size = n1 := ⟨_, rfl⟩
    have em1 : Ext w5.drew m1 := by rw [← hm1']; exact ext_of_grown (World.grownBy_alloc w5.drew _ none)
    have xm1 : m1.heap[n1]? = some (.cells #[Value.slice none 0 0, Value.int IntKind.i64 0] 116) := by rw [← hm1', ← hn1]; exact heap_alloc_new w5 _
    have q2 := cell_ofBlk (i := 0) (v := .slice none 0 0) xm1 rfl
    have q3 := cell_ofBlk (i := 1) (v := .int .i64 0) xm1 rfl
    have q4 := frozen_ofBlk (i := 0) xm1
    have q5 := frozen_ofBlk (i := 1) xm1
    rw [hm1', hn1]
    refine hK _ m1 w5.drew (Ext.refl _) em1 ?_
    clear hK K
    refine wpQuiet_nil ?_
    refine live_step rfl (fun K hK => ?_)
    go_simp
    obtain ⟨m2, hm2'⟩ : ∃ m2, ((m1.setCell ⟨n1, 0, none⟩ (.slice al nl cl)).setCell ⟨n1, 1, none⟩ (.int .i64 z)) = m2 := ⟨_, rfl⟩
    have hsz1 : w5.drew.heap.size ≤ n1 := by rw [← hn1]; exact Nat.le_refl _
    have em2 : Ext w5.drew m2 := by rw [← hm2']; exact (em1.set hsz1 _).set hsz1 _
    have z2 : m2.heap[n1]? = some (.cells #[.slice al nl cl, .int .i64 z] 116) := by rw [← hm2']; exact heap_setCell_blk (heap_setCell_blk xm1 0 _) 1 _
    rw [hm2']
    refine hK _ m2 w5.drew (Ext.refl _) em2 ?_
    clear hK K
    repeat (go_big_quiet_step (fail))
    refine wpQuiet_nil ?_
    refine wpList_nil ?_
    have eWm : Ext w5 m2 := (Ext.drew _).trans em2
    have hEm := er5.trans eWm
    have hOm := hO5.ext eWm
    have hSm := h.ext hEm
    clear hm1' hm2' xm1 q2 q3 q4 q5 em1 em2 c4 c7 hlk hn1 hsz1
    have c4 := Ext.ofBlk (i := 4) (v := .int .i64 s.view) hSm.blk rfl
    have c1 := Ext.ofBlk (i := 1) (v := .int .i64 s.me) hSm.blk rfl
    have c15 := Ext.ofBlk (i := 15) (v := .bool true) hSm.blk (by rw [← hd]; rfl)
    cases bo with
    | true =>
      go_wp2_with fail
      refine wp_region_segs (by kernel_rfl) [([0, 1, 2, 3, 4, 5, 6, 7, 8, 9, 10, 11, 12, 13, 15, 16, 17, 18], 14)] [19, 20] [] (by decide +kernel) (fun c a d u w h => by cases d <;> exact h) ?_
      simp only [pickO, pickS, nthO, wpSegs]
      repeat (go_big_quiet_step (fail))
      refine wpQuiet_nil ?_
      refine live_skip rfl ?_
      go_simp
      repeat (go_big_quiet_step (fail))
      refine wpQuiet_nil ?_
      refine wpList_nil ?_
      have hS0 := h.ext (hEm.trans (Ext.drew _))
      have d8 := cell_ofBlk (i := 8) (v := .map (some p.mpr)) hS0.blk rfl
      have cM1 := hS0.mine_of 2 p.mpr F1 s.prepares hS0.preps ok.preps
      go_wp2_with fail
      refine cM1.mono ?_
      clear cM1 d8
      rintro e u1 ⟨val1, ll1, rfl, hO1, hll1, hE1⟩
      have hOa := (hOm.ext (Ext.drew _)).ext hE1
      have hEa := (hEm.trans (Ext.drew _)).trans hE1
      have hlen1 : ll1.length ≤ 1048577 := by have h1 := congrArg List.length hll1; rw [List.length_map] at h1; omega
      go_wp2_with (at_builtin; refine wpList_append_own_votes rfl (.tmp 99) (.tmp 105) rfl w.heap.size _ ([] ++ [Sent.mk (Vt.mk 4 s.me s.slot 0 (-1) s.value) a' c']) rfl hOa _ val1 ll1 rfl hO1 ((hEm.trans (Ext.drew _))).size (by simp; omega) hEa.size ?_; intro v4 u2 hO2 hg2; have hE2 : Ext w u2 := hEa.own hg2 (fun r hr => (hOa.row.lt r hr).1); have hS2 := h.ext hE2; have d9 := cell_ofBlk (i := 9) (v := .map (some p.mc)) hS2.blk rfl; have cM2 := hS2.mine_of 3 p.mc F2 s.commits hS2.comms ok.comms)
      refine cM2.mono ?_
      clear cM2 d9
      rintro e u3 ⟨val2, ll2, rfl, hO3, hll2, hE3⟩
      have hOb := hO2.ext hE3
      have hEb := hE2.trans hE3
      have hlen2 : ll2.length ≤ 1048577 := by have h1 := congrArg List.length hll2; rw [List.length_map] at h1; omega
      go_wp2_with (at_builtin; refine wpList_append_own_votes rfl (.tmp 107) (.tmp 113) rfl w.heap.size _ (([] ++ [Sent.mk (Vt.mk 4 s.me s.slot 0 (-1) s.value) a' c']) ++ ll1) rfl hOb _ val2 ll2 rfl hO3 hE2.size (by simp; omega) hEb.size ?_; intro v5 u4 hO4 hg4; have hE4 : Ext w u4 := hEb.own hg4 (fun r hr => (hOb.row.lt r hr).1))
      go_ret
      refine ⟨_, _, rfl, hO4, ?_, hE4⟩
      rw [← hvs, List.map_append, List.map_append, hll1, hll2]
      unfold St.says
      cases getV s.proposals s.view <;> simp [hd]
    | false =>
      go_wp2_with fail
      refine wp_region_segs (by kernel_rfl) [([0, 1, 2, 3, 4, 5, 6, 7, 8, 9, 10, 11, 12, 13, 15, 16, 17, 18], 14)] [19, 20] [] (by decide +kernel) (fun c a d u w h => by cases d <;> exact h) ?_
      simp only [pickO, pickS, nthO, wpSegs]
      repeat (go_big_quiet_step (fail))
      refine wpQuiet_nil ?_
      refine live_skip rfl ?_
      go_simp
      repeat (go_big_quiet_step (fail))
      refine wpQuiet_nil ?_
      refine wpList_nil ?_
      have hS0 := h.ext (hEm.trans (Ext.drew _))
      have d8 := cell_ofBlk (i := 8) (v := .map (some p.mpr)) hS0.blk rfl
      have cM1 := hS0.mine_of 2 p.mpr F1 s.prepares hS0.preps ok.preps
      go_wp2_with fail
      refine cM1.mono ?_
      clear cM1 d8
      rintro e u1 ⟨val1, ll1, rfl, hO1, hll1, hE1⟩
      have hOa := (hOm.ext (Ext.drew _)).ext hE1
      have hEa := (hEm.trans (Ext.drew _)).trans hE1
      have hlen1 : ll1.length ≤ 1048577 := by have h1 := congrArg List.length hll1; rw [List.length_map] at h1; omega
      go_wp2_with (at_builtin; refine wpList_append_own_votes rfl (.tmp 99) (.tmp 105) rfl w.heap.size _ ([] ++ [Sent.mk (Vt.mk 4 s.me s.slot 0 (-1) s.value) a' c']) rfl hOa _ val1 ll1 rfl hO1 ((hEm.trans (Ext.drew _))).size (by simp; omega) hEa.size ?_; intro v4 u2 hO2 hg2; have hE2 : Ext w u2 := hEa.own hg2 (fun r hr => (hOa.row.lt r hr).1); have hS2 := h.ext hE2; have d9 := cell_ofBlk (i := 9) (v := .map (some p.mc)) hS2.blk rfl; have cM2 := hS2.mine_of 3 p.mc F2 s.commits hS2.comms ok.comms)
      refine cM2.mono ?_
      clear cM2 d9
      rintro e u3 ⟨val2, ll2, rfl, hO3, hll2, hE3⟩
      have hOb := hO2.ext hE3
      have hEb := hE2.trans hE3
      have hlen2 : ll2.length ≤ 1048577 := by have h1 := congrArg List.length hll2; rw [List.length_map] at h1; omega
      go_wp2_with (at_builtin; refine wpList_append_own_votes rfl (.tmp 107) (.tmp 113) rfl w.heap.size _ (([] ++ [Sent.mk (Vt.mk 4 s.me s.slot 0 (-1) s.value) a' c']) ++ ll1) rfl hOb _ val2 ll2 rfl hO3 hE2.size (by simp; omega) hEb.size ?_; intro v5 u4 hO4 hg4; have hE4 : Ext w u4 := hEb.own hg4 (fun r hr => (hOb.row.lt r hr).1))
      go_ret
      refine ⟨_, _, rfl, hO4, ?_, hE4⟩
      rw [← hvs, List.map_append, List.map_append, hll1, hll2]
      unfold St.says
      cases getV s.proposals s.view <;> simp [hd]
  | false =>
    rw [hd] at d15
    have c1 := Ext.ofBlk (i := 1) (v := .int .i64 s.me) h.blk rfl
    have c2 := Ext.ofBlk (i := 2) (v := .int .i64 s.slot) h.blk rfl
    have c4 := Ext.ofBlk (i := 4) (v := .int .i64 s.view) h.blk rfl
    go_enter Try.func23, Try.ntmps23
    go_wp2_with fail
    refine wp_region_segs (by kernel_rfl) [([0, 1, 2, 3, 4, 5, 6, 7, 8, 9, 10, 11, 12, 13], 14)] [] [15, 16] (by decide +kernel) (fun c a d u w h => by cases d <;> exact h) ?_
    simp only [pickO, pickS, nthO, wpSegs]
    repeat (go_big_quiet_step (fail))
    refine wpQuiet_nil ?_
    refine live_step rfl (fun K hK => ?_)
    go_simp
    obtain ⟨w4, hw4⟩ : ∃ w4, (w.alloc (.cells #[.int .i64 5, .int .i64 s.me, .int .i64 s.slot, .int .i64 s.view, .int .i64 (-1), .slice none 0 0] 31)).drew = w4 := ⟨_, rfl⟩
    have e34 : Ext w.drew w4 := by rw [← hw4]; exact ext_of_grown (World.grownBy_alloc w.drew _ none)
    have hblk : w4.heap[w.heap.size]? = some (.cells (voteCells ⟨5, s.me, s.slot, s.view, -1, []⟩ none 0) 31) := by rw [← hw4]; exact heap_alloc_new w _
    have er4 : Ext w w4 := (Ext.drew _).trans e34
    rw [hw4]
    refine hK _ w4 w4 e34 (Ext.refl _) ?_
    clear hK K hw4
    refine wpQuiet_nil ?_
    refine wpList_append_votes rfl (.tmp 29) (.tmp 43) rfl w.heap.size _ [] [(Sent.mk (Vt.mk 5 s.me s.slot s.view (-1) []) none 0)] rfl (OV.nil _ _) ⟨w.heap.size, 0, none⟩ 1 1 rfl rfl (one_vote (Sent.mk (Vt.mk 5 s.me s.slot s.view (-1) []) none 0) hblk) (by intro y hy; simp only [List.mem_singleton] at hy; subst hy; rfl) (by intro y hy q hq; simp only [List.mem_singleton] at hy; subst hy; cases hq) (by simp) er4.size ?_
    intro v5 w5 hO5 hg5
    have er5 : Ext w w5 := er4.own hg5 (fun r hr => by cases hr)
    clear d15 c1 c2 c4
    have hS5 := h.ext er5
    have c4 := Ext.ofBlk (i := 4) (v := .int .i64 s.view) hS5.blk rfl
    have c7 := Ext.ofBlk (i := 7) (v := .map (some p.mp)) hS5.blk rfl
    obtain ⟨al, nl, cl, z, bo, hlk, hcase⟩ := hS5.props.look s.view
    go_wp2_with fail
    refine wp_region_segs (by kernel_rfl) [([0, 1, 2, 3, 4, 5, 6, 7, 8, 9, 10, 11], 12), ([], 13)] [14] [] (by decide +kernel) (fun c a d u w h => by cases d <;> exact h) ?_
    simp only [pickO, pickS, nthO, wpSegs]
    repeat (go_big_quiet_step (fail))
    refine wpQuiet_nil ?_
    refine live_step rfl (fun K hK => ?_)
    go_simp
    obtain ⟨m1, hm1'⟩ : ∃ m1, (w5.alloc (Obj.cells #[Value.slice none 0 0, Value.int IntKind.i64 0] 116)).drew = m1 := ⟨_, rfl⟩
    obtain ⟨n1, hn1⟩ : ∃ n1, w5.heap.size = n1 := ⟨_, rfl⟩
    have em1 : Ext w5.drew m1 := by rw [← hm1']; exact ext_of_grown (World.grownBy_alloc w5.drew _ none)
    have xm1 : m1.heap[n1]? = some (.cells #[Value.slice none 0 0, Value.int IntKind.i64 0] 116) := by rw [← hm1', ← hn1]; exact heap_alloc_new w5 _
    have q2 := cell_ofBlk (i := 0) (v := .slice none 0 0) xm1 rfl
    have q3 := cell_ofBlk (i := 1) (v := .int .i64 0) xm1 rfl
    have q4 := frozen_ofBlk (i := 0) xm1
    have q5 := frozen_ofBlk (i := 1) xm1
    rw [hm1', hn1]
    refine hK _ m1 w5.drew (Ext.refl _) em1 ?_
    clear hK K
    refine wpQuiet_nil ?_
    refine live_step rfl (fun K hK => ?_)
    go_simp
    obtain ⟨m2, hm2'⟩ : ∃ m2, ((m1.setCell ⟨n1, 0, none⟩ (.slice al nl cl)).setCell ⟨n1, 1, none⟩ (.int .i64 z)) = m2 := ⟨_, rfl⟩
    have hsz1 : w5.drew.heap.size ≤ n1 := by rw [← hn1]; exact Nat.le_refl _
    have em2 : Ext w5.drew m2 := by rw [← hm2']; exact (em1.set hsz1 _).set hsz1 _
    have z2 : m2.heap[n1]? = some (.cells #[.slice al nl cl, .int .i64 z] 116) := by rw [← hm2']; exact heap_setCell_blk (heap_setCell_blk xm1 0 _) 1 _
    rw [hm2']
    refine hK _ m2 w5.drew (Ext.refl _) em2 ?_
    clear hK K
    repeat (go_big_quiet_step (fail))
    refine wpQuiet_nil ?_
    refine wpList_nil ?_
    have eWm : Ext w5 m2 := (Ext.drew _).trans em2
    have hEm := er5.trans eWm
    have hOm := hO5.ext eWm
    have hSm := h.ext hEm
    clear hm1' hm2' xm1 q2 q3 q4 q5 em1 em2 c4 c7 hlk hn1 hsz1
    have c4 := Ext.ofBlk (i := 4) (v := .int .i64 s.view) hSm.blk rfl
    have c1 := Ext.ofBlk (i := 1) (v := .int .i64 s.me) hSm.blk rfl
    have c15 := Ext.ofBlk (i := 15) (v := .bool false) hSm.blk (by rw [← hd]; rfl)
    rcases hcase with ⟨rfl, hg, rfl, rfl⟩ | ⟨lp, rfl, hg, rfl, hbp⟩
    · go_wp2_with fail
      refine wp_region_segs (by kernel_rfl) [([0, 1, 2, 3, 4, 5, 6, 7, 8, 9, 10, 11, 12, 13, 15, 16, 17, 18], 14)] [19, 20] [] (by decide +kernel) (fun c a d u w h => by cases d <;> exact h) ?_
      simp only [pickO, pickS, nthO, wpSegs]
      repeat (go_big_quiet_step (fail))
      refine wpQuiet_nil ?_
      refine live_skip rfl ?_
      go_simp
      repeat (go_big_quiet_step (fail))
      refine wpQuiet_nil ?_
      refine wpList_nil ?_
      have hS0 := h.ext (hEm.trans (Ext.drew _))
      have d8 := cell_ofBlk (i := 8) (v := .map (some p.mpr)) hS0.blk rfl
      have cM1 := hS0.mine_of 2 p.mpr F1 s.prepares hS0.preps ok.preps
      go_wp2_with fail
      refine cM1.mono ?_
      clear cM1 d8
      rintro e u1 ⟨val1, ll1, rfl, hO1, hll1, hE1⟩
      have hOa := (hOm.ext (Ext.drew _)).ext hE1
      have hEa := (hEm.trans (Ext.drew _)).trans hE1
      have hlen1 : ll1.length ≤ 1048577 := by have h1 := congrArg List.length hll1; rw [List.length_map] at h1; omega
      go_wp2_with (at_builtin; refine wpList_append_own_votes rfl (.tmp 99) (.tmp 105) rfl w.heap.size _ ([] ++ [(Sent.mk (Vt.mk 5 s.me s.slot s.view (-1) []) none 0)]) rfl hOa _ val1 ll1 rfl hO1 ((hEm.trans (Ext.drew _))).size (by simp; omega) hEa.size ?_; intro v4 u2 hO2 hg2; have hE2 : Ext w u2 := hEa.own hg2 (fun r hr => (hOa.row.lt r hr).1); have hS2 := h.ext hE2; have d9 := cell_ofBlk (i := 9) (v := .map (some p.mc)) hS2.blk rfl; have cM2 := hS2.mine_of 3 p.mc F2 s.commits hS2.comms ok.comms)
      refine cM2.mono ?_
      clear cM2 d9
      rintro e u3 ⟨val2, ll2, rfl, hO3, hll2, hE3⟩
      have hOb := hO2.ext hE3
      have hEb := hE2.trans hE3
      have hlen2 : ll2.length ≤ 1048577 := by have h1 := congrArg List.length hll2; rw [List.length_map] at h1; omega
      go_wp2_with (at_builtin; refine wpList_append_own_votes rfl (.tmp 107) (.tmp 113) rfl w.heap.size _ (([] ++ [(Sent.mk (Vt.mk 5 s.me s.slot s.view (-1) []) none 0)]) ++ ll1) rfl hOb _ val2 ll2 rfl hO3 hE2.size (by simp; omega) hEb.size ?_; intro v5 u4 hO4 hg4; have hE4 : Ext w u4 := hEb.own hg4 (fun r hr => (hOb.row.lt r hr).1))
      go_ret
      refine ⟨_, _, rfl, hO4, ?_, hE4⟩
      rw [← hvs, List.map_append, List.map_append, hll1, hll2]
      unfold St.says
      simp [hd, hg]
    · have hpl := (ok.props.2 _ _ (getV_mem hg)).2.2.1
      have hbm : BB m2 al lp := hbp.ext eWm
      go_wp2_with fail
      refine wp_region_segs (by kernel_rfl) [([0, 1, 2, 3, 4, 5, 6, 7, 8, 9, 10, 11, 12, 13, 15, 16, 17, 18], 14)] [19, 20] [] (by decide +kernel) (fun c a d u w h => by cases d <;> exact h) ?_
      simp only [pickO, pickS, nthO, wpSegs]
      repeat (go_big_quiet_step (fail))
      refine wpQuiet_nil ?_
      refine live_step rfl (fun K hK => ?_)
      go_simp
      refine ((hSm.ext (Ext.drew m2)).proposer ok s.view ok.view.1 ok.view.2).mono ?_
      rintro e m3 ⟨rfl, e3⟩
      refine hK _ m3 m3 e3 (Ext.refl _) ?_
      clear hK K
      repeat (go_big_quiet_step (fail))
      refine wpQuiet_nil ?_
      refine wpList_nil ?_
      have e23 : Ext m2 m3 := (Ext.drew _).trans e3
      have hE3 := hEm.trans e23
      have hO3 := hOm.ext e23
      have hS3 := h.ext hE3
      have z3 := e23.heap z2
      clear c1 c4 c15
      by_cases hme : s.proposer s.view = s.me
      · have hme' : (s.proposer s.view == s.me) = true := by simpa using hme
        rw [hme']
        clear hme'
        go_wp2_with fail
        have c1 := Ext.ofBlk (i := 1) (v := .int .i64 s.me) hS3.blk rfl
        have c2 := Ext.ofBlk (i := 2) (v := .int .i64 s.slot) hS3.blk rfl
        have c4 := Ext.ofBlk (i := 4) (v := .int .i64 s.view) hS3.blk rfl
        have y0 := Ext.ofBlk (i := 0) (v := .slice al lp.length cl) z3 rfl
        have y1 := Ext.ofBlk (i := 1) (v := .int .i64 z) z3 rfl
        refine wp_region_segs (by kernel_rfl) [([0, 1, 2, 3, 4, 5, 6, 7, 8, 9, 10, 11, 12, 13, 14, 15, 16], 17), ([18], 19)] [] [20, 21] (by decide +kernel) (fun c a d u w h => by cases d <;> exact h) ?_
        simp only [pickO, pickS, nthO, wpSegs]
        repeat (go_big_quiet_step (fail))
        refine wpQuiet_nil ?_
        refine live_step rfl (fun K hK => ?_)
        go_simp
        refine (clone_loc al _ cl lp _ rfl ((hbm.ext e23).ext (Ext.drew _)).bs (by omega)).mono ?_
        rintro e m4 ⟨a', c', rfl, hb', hE4, hloc⟩
        refine hK _ m4 m4 hE4 (Ext.refl _) ?_
        clear hK K
        repeat (go_big_quiet_step (fail))
        refine wpQuiet_nil ?_
        refine live_step rfl (fun K hK => ?_)
        go_simp
        obtain ⟨m5, hm5⟩ : ∃ m5, m4.alloc (.cells #[.int .i64 1, .int .i64 s.me, .int .i64 s.slot, .int .i64 s.view, .int .i64 z, .slice a' lp.length c'] 31) = m5 := ⟨_, rfl⟩
        have e45 : Ext m4 m5 := by rw [← hm5]; exact ext_of_grown (World.grownBy_alloc m4 _ none)
        have hblk5 : m5.heap[m4.heap.size]? = some (.cells (voteCells ⟨1, s.me, s.slot, s.view, z, lp⟩ a' c') 31) := by rw [← hm5]; exact heap_alloc_new m4 _
        have e35 : Ext m3 m5 := ((Ext.drew _).trans hE4).trans e45
        have hE5 := hE3.trans e35
        rw [hm5]
        refine hK _ m5 m5 e45 (Ext.refl _) ?_
        clear hK K hm5
        refine wpQuiet_nil ?_
        refine wpList_append_votes rfl (.tmp 78) (.tmp 97) rfl w.heap.size _ _ [⟨⟨1, s.me, s.slot, s.view, z, lp⟩, a', c'⟩] rfl (hO3.ext e35) ⟨m4.heap.size, 0, none⟩ 1 1 rfl rfl (one_vote ⟨⟨1, s.me, s.slot, s.view, z, lp⟩, a', c'⟩ hblk5) (by intro y hy; simp only [List.mem_singleton] at hy; subst hy; exact hb'.ext e45) (by intro y hy q hq; simp only [List.mem_singleton] at hy; subst hy; exact Nat.le_trans hE3.size (hloc q hq)) (by simp) hE5.size ?_
        intro v6 m6 hO6 hg6
        have hE6 : Ext w m6 := hE5.own hg6 (fun r hr => ((hO3.ext e35).row.lt r hr).1)
        clear c1 c2 c4 y0 y1
        have hS0 := h.ext hE6
        have d8 := cell_ofBlk (i := 8) (v := .map (some p.mpr)) hS0.blk rfl
        have cM1 := hS0.mine_of 2 p.mpr F1 s.prepares hS0.preps ok.preps
        go_wp2_with fail
        refine cM1.mono ?_
        clear cM1 d8
        rintro e u1 ⟨val1, ll1, rfl, hO1, hll1, hE1⟩
        have hOa := hO6.ext hE1
        have hEa := hE6.trans hE1
        have hlen1 : ll1.length ≤ 1048577 := by have h1 := congrArg List.length hll1; rw [List.length_map] at h1; omega
        go_wp2_with (at_builtin; refine wpList_append_own_votes rfl (.tmp 99) (.tmp 105) rfl w.heap.size _ ([] ++ [(Sent.mk (Vt.mk 5 s.me s.slot s.view (-1) []) none 0)] ++ [Sent.mk (Vt.mk 1 s.me s.slot s.view z lp) a' c']) rfl hOa _ val1 ll1 rfl hO1 (hE6).size (by simp; omega) hEa.size ?_; intro v4 u2 hO2 hg2; have hE2 : Ext w u2 := hEa.own hg2 (fun r hr => (hOa.row.lt r hr).1); have hS2 := h.ext hE2; have d9 := cell_ofBlk (i := 9) (v := .map (some p.mc)) hS2.blk rfl; have cM2 := hS2.mine_of 3 p.mc F2 s.commits hS2.comms ok.comms)
        refine cM2.mono ?_
        clear cM2 d9
        rintro e u3 ⟨val2, ll2, rfl, hO3, hll2, hE3⟩
        have hOb := hO2.ext hE3
        have hEb := hE2.trans hE3
        have hlen2 : ll2.length ≤ 1048577 := by have h1 := congrArg List.length hll2; rw [List.length_map] at h1; omega
        go_wp2_with (at_builtin; refine wpList_append_own_votes rfl (.tmp 107) (.tmp 113) rfl w.heap.size _ (([] ++ [(Sent.mk (Vt.mk 5 s.me s.slot s.view (-1) []) none 0)] ++ [Sent.mk (Vt.mk 1 s.me s.slot s.view z lp) a' c']) ++ ll1) rfl hOb _ val2 ll2 rfl hO3 hE2.size (by simp; omega) hEb.size ?_; intro v5 u4 hO4 hg4; have hE4 : Ext w u4 := hEb.own hg4 (fun r hr => (hOb.row.lt r hr).1))
        go_ret
        refine ⟨_, _, rfl, hO4, ?_, hE4⟩
        rw [← hvs, List.map_append, List.map_append, hll1, hll2]
        unfold St.says
        simp [hd, hg, hme]
      · have hme' : (s.proposer s.view == s.me) = false := by simpa using hme
        rw [hme']
        clear hme'
        have hS0 := h.ext hE3
        have d8 := cell_ofBlk (i := 8) (v := .map (some p.mpr)) hS0.blk rfl
        have cM1 := hS0.mine_of 2 p.mpr F1 s.prepares hS0.preps ok.preps
        go_wp2_with fail
        refine cM1.mono ?_
        clear cM1 d8
        rintro e u1 ⟨val1, ll1, rfl, hO1, hll1, hE1⟩
        have hOa := hO3.ext hE1
        have hEa := hE3.trans hE1
        have hlen1 : ll1.length ≤ 1048577 := by have h1 := congrArg List.length hll1; rw [List.length_map] at h1; omega
        go_wp2_with (at_builtin; refine wpList_append_own_votes rfl (.tmp 99) (.tmp 105) rfl w.heap.size _ ([] ++ [(Sent.mk (Vt.mk 5 s.me s.slot s.view (-1) []) none 0)]) rfl hOa _ val1 ll1 rfl hO1 (hE3).size (by simp; omega) hEa.size ?_; intro v4 u2 hO2 hg2; have hE2 : Ext w u2 := hEa.own hg2 (fun r hr => (hOa.row.lt r hr).1); have hS2 := h.ext hE2; have d9 := cell_ofBlk (i := 9) (v := .map (some p.mc)) hS2.blk rfl; have cM2 := hS2.mine_of 3 p.mc F2 s.commits hS2.comms ok.comms)
        refine cM2.mono ?_
        clear cM2 d9
        rintro e u3 ⟨val2, ll2, rfl, hO3, hll2, hE3⟩
        have hOb := hO2.ext hE3
        have hEb := hE2.trans hE3
        have hlen2 : ll2.length ≤ 1048577 := by have h1 := congrArg List.length hll2; rw [List.length_map] at h1; omega
        go_wp2_with (at_builtin; refine wpList_append_own_votes rfl (.tmp 107) (.tmp 113) rfl w.heap.size _ (([] ++ [(Sent.mk (Vt.mk 5 s.me s.slot s.view (-1) []) none 0)]) ++ ll1) rfl hOb _ val2 ll2 rfl hO3 hE2.size (by simp; omega) hEb.size ?_; intro v5 u4 hO4 hg4; have hE4 : Ext w u4 := hEb.own hg4 (fun r hr => (hOb.row.lt r hr).1))
        go_ret
        refine ⟨_, _, rfl, hO4, ?_, hE4⟩
        rw [← hvs, List.map_append, List.map_append, hll1, hll2]
        unfold St.says
        simp [hd, hg, hme]
end
end Go.Proofs.Ytiofkiaibcmdhaa
