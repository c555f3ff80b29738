import Derived.Test.YtiofkiaibcmdhaaPure
import Derived.Test.YtiofkiaibcmdhaaOwn
import Derived.Deep.MidRow
namespace Go.Proofs.Ytiofkiaibcmdhaa
open Go Go.RowKit

/-- Votes as bytes. -/
def voteB (v : Vt) : Bytes := quad v.view ++ quad v.value.length ++ v.value
def partB (l : List Vt) : Bytes := quad l.length ++ l.flatMap voteB
def St.bytes (s : St) : Bytes := quad s.view ++ partB (s.mine 2 s.prepares) ++ partB (s.mine 3 s.commits) ++ (if s.decided then [1] ++ quad s.value.length ++ s.value else [0] ++ quad 0)

theorem live_stepG {g : Nat} {P : Program} {ops : Array Oper} {o : Oper} {next : Act → World → World → Prop} {a : Act} {b w : World} (hw : Region.wanted o (yielded ops a.tmps) = true)
    (h : ∀ K : Act → World → Prop, (∀ a' w' b', ExtG g b b' → ExtG g b' w' → next a' b' w' → K a' w') → o.wp P a w K NoExit) : liveAtG g P ops o next a b w := by
  unfold liveAtG
  rw [if_pos hw]
  exact h _ fun a' w' b' h1 h2 h3 => ⟨b', h1, h2, h3⟩

theorem voteB_length (v : Vt) : (voteB v).length = 8 + v.value.length := by
  unfold voteB
  simp only [List.length_append, quad_length]
theorem flat_voteB_le {l : List Vt} (h : ∀ v ∈ l, v.value.length ≤ 4096) : (l.flatMap voteB).length ≤ l.length * 4104 := by
  induction l with
  | nil => simp
  | cons v l ih =>
    have h1 := ih fun x hx => h x (List.mem_cons_of_mem _ hx)
    have h2 := h v (List.mem_cons_self ..)
    simp only [List.flatMap_cons, List.length_append, voteB_length, List.length_cons]
    omega
theorem partB_le {l : List Vt} (h : ∀ v ∈ l, v.value.length ≤ 4096) : (partB l).length ≤ 4 + l.length * 4104 := by
  unfold partB
  have := flat_voteB_le h
  simp only [List.length_append, quad_length]
  omega

theorem mine_value {s : St} {kind k : Int} {m : List (Int × Told)} (hm : ViewsOk k m) : ∀ v ∈ s.mine kind m, v.value.length ≤ 4096 ∧ 0 ≤ v.view ∧ v.view ≤ 1048576 := by
  intro v h
  rw [mine_own] at h
  obtain ⟨⟨view, x⟩, hx, rfl⟩ := List.mem_map.1 h
  have ha := mem_ownL.1 hx
  unfold at2 at ha
  cases hg : getV m view with
  | none => rw [hg] at ha; cases ha
  | some t =>
    rw [hg] at ha
    have h1 := hm.2 view t (getV_mem hg)
    exact ⟨(h1.2.2.2 _ _ (getV_mem ha)).2.2, h1.1, h1.2.1⟩

theorem OV.at {w : World} {base n c : Nat} {a : Option Addr} {l : List Sent} (h : OV w base (.slice a n c) l) {i : Nat} {x : Sent} (hi : l[i]? = some x) : ∃ g, a = some ⟨g, 0, none⟩ ∧ base ≤ g ∧ w.rangeAt g (i * 6) x.cells := by
  have hlt : i < l.length := (List.getElem?_eq_some_iff.1 hi).1
  rcases h.row.2 with ⟨_, h0⟩ | ⟨g, cap, cur, hv, hb, _⟩
  · omega
  · injection hv with h1 h2 h3
    subst h1
    refine ⟨g, rfl, hb, fun j u hu => ?_⟩
    have hj : j < 6 := by have := (List.getElem?_eq_some_iff.1 hu).1; simpa [Sent.cells_length] using this
    have := h.row.cells (g := g) rfl (i * 6 + j) u (by rw [flat_get hi hj]; exact hu)
    simpa [Addr.add_lit] using this

theorem ob_ext {w w' : World} {base : Nat} {v : Value} {l : List UInt8} (h : OB w base v l) (hE : Ext w w') : OB w' base v l := by
  refine ⟨h.1, ?_⟩
  rcases h.2 with h2 | ⟨g, cap, cur, hv, hg, hh, r⟩
  · exact .inl h2
  · exact .inr ⟨g, cap, cur, hv, hg, hE.heap hh, r⟩

theorem BB.kept_below {A B : Nat} {u w : World} {a : Option Addr} {l : List UInt8} (h : BB u a l) (hK : Kept A B u w) (hb : ∀ p, a = some p → p.block < A) : BB w a l := by
  cases a with
  | none => exact h
  | some p =>
    obtain ⟨hs, cs, fz, h3, h4⟩ := h
    exact ⟨hs, cs, fz, hK.block _ _ h3 (.inl (hb p rfl)), h4⟩

theorem Kept.whole {A B : Nat} {w u w' : World} (hK : Kept A B u w') (hE : Ext w u) (hA : w.heap.size ≤ A) : Ext w w' := by
  have ht := hE.turn []
  refine ext_of_grown ⟨hK.os.trans ht.os, hK.tape.trans ht.tape, hK.output.trans ht.output, Nat.le_trans hE.size hK.size, fun k hk _ => ?_⟩
  obtain ⟨o, ho⟩ : ∃ o, w.heap[k]? = some o := ⟨_, Array.getElem?_eq_getElem hk⟩
  rw [ho]
  exact hK.block k o (hE.heap ho) (.inl (by omega))

/-- An append of bytes, as one live operation of a region. -/
theorem wp_append_bytes_at {o : Oper} {a : Act} {K : Act → World → Prop} {Q : Exit → Act → World → Prop} {w : World} (s x : Operand)
    (ho : o.op = .call { callee := .builtin .append, args := #[s, x], argTypes := #[29, 29] }) (base : Nat) (v : Value) (l m : List UInt8) (hs : a.eval s = v) (hown : OB w base v l) (p : Option Addr) (n c : Nat) (hx : a.eval x = .slice p n c)
    (hn : m.length = n) (hsrc : BS w p m) (hlen : l.length + m.length ≤ 140737488355328) (hbase : base ≤ w.heap.size)
    (h : ∀ v' w', OB w' base v' (l ++ m) → w.grownBy w' v.ownBlock → (∀ g, v'.ownBlock = some g → v.ownBlock = some g ∨ w.heap.size ≤ g) → K (a.put o.dst v') w') : o.wp Try.prog a w K Q := by
  obtain ⟨i, hi, hz, hsz, hb⟩ := info_parts info5
  subst hn
  obtain ⟨v', w', h1, h2, h3⟩ := run_append_bytes (P := Try.prog) (ty := o.type) Try.underlying29 hi hz hsz hb hown c hsrc hlen hbase
  have h4 := append_bytes_at hown hsrc hlen h1
  unfold Oper.wp
  simp [execOp, ho, resolve, invoke, builtin, hs, hx, h1, Result.andThen]
  exact h v' w' h2 h3 h4

theorem Kept.grown2 {A B : Nat} {u w w' : World} {row : Option Nat} (h : Kept A B u w) (hg : w.grownBy w' row) (hr : ∀ r, row = some r → A < r ∧ (r < B ∨ u.heap.size ≤ r)) : Kept A B u w' :=
  h.grown hg fun r e => ⟨Nat.le_of_lt (hr r e).1, (hr r e).2⟩

theorem OV.kept {A B : Nat} {u w : World} {v : Value} {l : List Sent} (h : OV u B v l) (hK : Kept A B u w) : OV w B v l := by
  refine ⟨⟨h.row.1, ?_⟩, fun x hx => ?_, h.loc⟩
  · rcases h.row.2 with h2 | ⟨g, cap, cur, hv, hg, hh, r⟩
    · exact .inl h2
    · exact .inr ⟨g, cap, cur, hv, hg, hK.block _ _ hh (.inr hg), r⟩
  · have h1 := h.vals x hx
    have h2 := h.loc x hx
    cases ha : x.a with
    | none => rw [ha] at h1; exact h1
    | some p =>
      rw [ha] at h1
      obtain ⟨hs, cs, fz, h3, h4⟩ := h1
      exact ⟨hs, cs, fz, hK.block _ _ h3 (.inr (h2 p ha)), h4⟩

section
variable {fa : Nat} {w : World} {b : Nat} {fp : List Nat} {s : St} {okf : Bytes → Bool}

set_option maxRecDepth 100000 in
set_option maxHeartbeats 4000000 in
theorem CoreAt.bytes_of (h : CoreAt fa w b fp s) (ok : s.Ok) : Calls Try.prog 16 #[.pointer (some ⟨b, 0, none⟩)] w fun e w' => ∃ v, e = .returned v ∧ OB w' w.heap.size v s.bytes ∧ Ext w w' ∧ ∀ g, v.ownBlock = some g → w.heap.size < g := by
  obtain ⟨p, F1, F2, F3, rfl, h⟩ := h
  have hv := ok.view
  have d4 := cell_ofBlk (i := 4) (v := .int .i64 s.view) h.blk rfl
  obtain ⟨bs, hbs⟩ : ∃ bs, s.bytes = bs := ⟨_, rfl⟩
  rw [hbs]
  go_enter Try.func16, Try.ntmps16
  go_wp2_with (go_at_call 58; refine (four_at s.view w.heap.size (.slice none 0 0) [] w (OB.nil _ _) hv.1 (by omega) (by simp) (Nat.le_refl _)).mono ?_; rintro e w1 ⟨v1, rfl, hO1, hg1, hat1⟩)
  have e1 : Ext w w1 := ext_of_grown (by simpa [Value.ownBlock] using hg1)
  have h1 := h.ext e1
  have c8 := Ext.ofBlk (i := 8) (v := .map (some p.mpr)) h1.blk rfl
  have c9 := Ext.ofBlk (i := 9) (v := .map (some p.mc)) h1.blk rfl
  refine wp_region_segs (by kernel_rfl) [([0, 1, 2, 3, 4, 6, 7, 8, 9, 10, 14], 5), ([], 11), ([], 12)] [13] [] (by decide +kernel) (fun c a d u w h => by cases d <;> exact h) ?_
  simp only [pickO, pickS, nthO, wpSegs]
  repeat (go_big_quiet_step (fail))
  refine wpQuiet_nil ?_
  refine live_step rfl (fun K hK => ?_)
  go_simp
  have cM1 := (h1.ext (Ext.drew w1)).mine_of 2 p.mpr F1 s.prepares (h1.ext (Ext.drew w1)).preps ok.preps
  refine cM1.mono ?_
  clear cM1
  rintro e mA ⟨val1, l1, rfl, hP1, hl1, hE1⟩
  obtain ⟨a1, k1, rfl⟩ := hP1.form
  refine hK _ mA mA hE1 (Ext.refl _) ?_
  clear hK K
  refine wpQuiet_nil ?_
  refine live_step rfl (fun K hK => ?_)
  go_simp
  have hEu1 := (e1.trans (Ext.drew w1)).trans hE1
  have cM2 := (h.ext hEu1).mine_of 3 p.mc F2 s.commits (h.ext hEu1).comms ok.comms
  refine cM2.mono ?_
  clear cM2
  rintro e mB ⟨val2, l2, rfl, hP2, hl2, hE2⟩
  obtain ⟨a2, k2, rfl⟩ := hP2.form
  refine hK _ mB mB hE2 (Ext.refl _) ?_
  clear hK K
  refine wpQuiet_nil ?_
  refine live_step rfl (fun K hK => ?_)
  go_simp
  obtain ⟨mC, hu3⟩ : ∃ mC, mB.alloc (.cells #[.slice a1 l1.length k1, .slice a2 l2.length k2] 42) = mC := ⟨_, rfl⟩
  have e23 : Ext mB mC := by rw [← hu3]; exact ext_of_grown (World.grownBy_alloc mB _ none)
  have xu3 : mC.heap[mB.heap.size]? = some (.cells #[.slice a1 l1.length k1, .slice a2 l2.length k2] 42) := by rw [← hu3]; exact heap_alloc_new mB _
  rw [hu3]
  refine hK _ mC mC e23 (Ext.refl _) ?_
  clear hK K hu3
  repeat (go_big_quiet_step (fail))
  refine wpQuiet_nil ?_
  refine wpList_nil ?_
  obtain ⟨n2, hn2⟩ : ∃ n2, mB.heap.size = n2 := ⟨_, rfl⟩
  rw [hn2] at xu3 ⊢
  have hEu3 := (hEu1.trans hE2).trans e23
  clear c8 c9
  obtain ⟨A, hA⟩ : ∃ A, w.heap.size = A := ⟨_, rfl⟩
  obtain ⟨B, hB⟩ : ∃ B, w1.heap.size = B := ⟨_, rfl⟩
  have hm1 : ∀ x ∈ l1.map (·.v), x.value.length ≤ 4096 ∧ 0 ≤ x.view ∧ x.view ≤ 1048576 := by rw [hl1]; exact mine_value ok.preps
  have hm2 : ∀ x ∈ l2.map (·.v), x.value.length ≤ 4096 ∧ 0 ≤ x.view ∧ x.view ≤ 1048576 := by rw [hl2]; exact mine_value ok.comms
  have hn1 : l1.length ≤ 1048577 := by
    have h1 := congrArg List.length hl1
    rw [List.length_map] at h1
    have h3 := mine_length s 2 s.prepares
    have h5 := ok.preps.length
    omega
  have hn2' : l2.length ≤ 1048577 := by
    have h1 := congrArg List.length hl2
    rw [List.length_map] at h1
    have h3 := mine_length s 3 s.commits
    have h5 := ok.comms.length
    omega
  have hp1 : (partB (l1.map (·.v))).length ≤ 4303362012 := by have := partB_le fun v hv => (hm1 v hv).1; rw [List.length_map] at this; omega
  have hp2 : (partB (l2.map (·.v))).length ≤ 4303362012 := by have := partB_le fun v hv => (hm2 v hv).1; rw [List.length_map] at this; omega
  have hbl : ∀ i : Nat, (quad s.view ++ (if 1 ≤ i then partB (l1.map (·.v)) else []) ++ (if 2 ≤ i then partB (l2.map (·.v)) else [])).length ≤ 8606724028 := by
    intro i
    have hq := quad_length s.view
    simp only [List.length_append]
    split <;> split <;> simp <;> omega
  have hloc1 : ∀ g, v1.ownBlock = some g → A < g ∧ g < B := fun g hg => by
    have := World.ownsRow.lt hO1 g hg
    rcases hat1 g hg with h2 | h2
    · cases h2
    · omega
  clear hat1
  go_wp2_with fail
  go_loopw [3, 29] (fun v3 v29 wr => ∃ (i : Nat) (bs3 : Bytes), v29 = .int .i64 i ∧ i ≤ 2 ∧ OB wr A v3 bs3 ∧ (∀ g, v3.ownBlock = some g → A < g ∧ (g < B ∨ mC.heap.size ≤ g)) ∧ Kept A B mC wr ∧
      bs3 = quad s.view ++ (if 1 ≤ i then partB (l1.map (·.v)) else []) ++ (if 2 ≤ i then partB (l2.map (·.v)) else []))
    (fun _ v _ => (2 - intOf v).toNat)
  case atStart =>
    refine ⟨0, quad s.view, rfl, by omega, ?_, fun g hg => ⟨(hloc1 g hg).1, .inl (hloc1 g hg).2⟩, Kept.refl _ _ _, by simp⟩
    have : OB mC w.heap.size v1 ([] ++ quad s.view) := ⟨hO1.1, by
      rcases hO1.2 with h2 | ⟨g, cap, cur, hv, hg, hh, r⟩
      · exact .inl h2
      · exact .inr ⟨g, cap, cur, hv, hg, ((((Ext.drew w1).trans hE1).trans hE2).trans e23).heap hh, r⟩⟩
    rw [← hA]
    simpa using this
  case round =>
    obtain ⟨i, bs3, rfl, hi, hO3, hloc3, hK3, rfl⟩ := hrel
    have hsz3 := hK3.size
    by_cases hlt : i < 2
    · obtain ⟨aL, kL, L, hcL, hOL, hL⟩ : ∃ aL kL L, mC.cell? ⟨n2, i, none⟩ = some (.slice aL (List.length L) kL) ∧ OV mC B (.slice aL L.length kL) L ∧ L = if i = 0 then l1 else l2 := by
        rcases (by omega : i = 0 ∨ i = 1) with rfl | rfl
        · refine ⟨a1, k1, l1, cell_ofBlk (i := 0) xu3 rfl, ?_, rfl⟩
          have := (hP1.ext hE2).ext e23
          exact this.base (by rw [← hB]; exact Nat.le_refl _)
        · refine ⟨a2, k2, l2, cell_ofBlk (i := 1) xu3 rfl, ?_, rfl⟩
          have := hP2.ext e23
          exact this.base (by rw [← hB]; have := hE1.size; simpa using this)
      have hn2B : B ≤ n2 := by have := hE1.size; have := hE2.size; have h3 : w1.drew.heap.size = B := hB; omega
      have hnr := hK3.block n2 _ xu3 (.inr hn2B)
      have hcr : wr.cell? ⟨n2, i, none⟩ = some (.slice aL L.length kL) := by
        unfold World.cell? at hcL ⊢
        rw [hnr]
        rw [xu3] at hcL
        exact hcL
      have hLl : L.length ≤ 1048577 := by rw [hL]; split <;> assumption
      have hLv : ∀ x ∈ L, x.v.value.length ≤ 4096 ∧ 0 ≤ x.v.view ∧ x.v.view ≤ 1048576 := fun x hx => by
        rw [hL] at hx
        split at hx
        · exact hm1 _ (List.mem_map_of_mem hx)
        · exact hm2 _ (List.mem_map_of_mem hx)
      have hAs : A ≤ wr.heap.size := by have := hEu3.size; omega
      have hb3 := hbl i
      obtain ⟨bs3, hbs3⟩ : ∃ bs3, quad s.view ++ (if 1 ≤ i then partB (l1.map (·.v)) else []) ++ (if 2 ≤ i then partB (l2.map (·.v)) else []) = bs3 := ⟨_, rfl⟩
      rw [hbs3] at hO3 hb3
      clear hbl hm1 hm2 hn1 hn2' hp1 hp2 hl1 hl2
      have hLH : Hid (L = if i = 0 then l1 else l2) := hL
      clear hL
      go_wp2_with (go_at_call 58; refine (four_at L.length A u3 bs3 wr hO3 (by omega) (by omega) (by omega) hAs).mono ?_; rintro e w4 ⟨v4, rfl, hO4, hg4, hat4⟩)
      have hg4w : ∀ g, v4.ownBlock = some g → A < g ∧ (g < B ∨ mC.heap.size ≤ g) := fun g hg => by
        rcases hat4 g hg with h2 | h2
        · exact hloc3 g h2
        · exact ⟨by omega, .inr (by omega)⟩
      have hK4 : Kept A B mC w4 := hK3.grown2 hg4 (fun r hr => hloc3 r hr)
      clear hO3 hg4 hat4 hcL hnr hcr hK3
      go_loopw [3, 39] (fun v3 v39 wr2 => ∃ (j : Nat), v39 = .int .i64 j ∧ j ≤ L.length ∧ OB wr2 A v3 (bs3 ++ quad L.length ++ (L.take j).flatMap (fun x => voteB x.v)) ∧ (∀ g, v3.ownBlock = some g → A < g ∧ (g < B ∨ mC.heap.size ≤ g)) ∧ Kept A B mC wr2)
        (fun _ v _ => L.length - (intOf v).toNat)
      case atStart => exact ⟨0, rfl, by omega, by simpa using hO4, hg4w, hK4⟩
      case round =>
        obtain ⟨j, rfl, hj, hO5, hloc5, hK5⟩ := hrel
        by_cases hjl : j < L.length
        · obtain ⟨x, hx⟩ : ∃ x, L[j]? = some x := ⟨_, List.getElem?_eq_getElem hjl⟩
          obtain ⟨gL, rfl, hgB, hrg⟩ := (hOL.kept hK5).at hx
          obtain ⟨⟨vk, vf, vs, vv, vd, vl⟩, va, vc⟩ := x
          have hrg2 : wr.rangeAt gL (j * 6) [.int .i64 vk, .int .i64 vf, .int .i64 vs, .int .i64 vv, .int .i64 vd, .slice va vl.length vc] := hrg
          clear hrg
          go_wp2_with (refine wpList_load_mid rfl 31 (.tmp 41) rfl gL (j * 6) rfl _ _ hrg2 Try.underlying31 rfl (by kernel_rfl) ?_)
          have hvb := hLv _ (List.mem_of_getElem? hx)
          have hAm : A ≤ mC.heap.size := by have := hEu3.size; omega
          simp only at hvb
          obtain ⟨n7, hn7⟩ : ∃ n7, wr.heap.size = n7 := ⟨_, rfl⟩
          obtain ⟨wb, hwb⟩ : ∃ wb, wr.alloc (.cells #[.int .i64 vk, .int .i64 vf, .int .i64 vs, .int .i64 vv, .int .i64 vd, .slice va vl.length vc] 31) = wb := ⟨_, rfl⟩
          have eb : Ext wr wb := by rw [← hwb]; exact ext_of_grown (World.grownBy_alloc wr _ none)
          have xb : wb.heap[n7]? = some (.cells #[.int .i64 vk, .int .i64 vf, .int .i64 vs, .int .i64 vv, .int .i64 vd, .slice va vl.length vc] 31) := by rw [← hwb, ← hn7]; exact heap_alloc_new wr _
          rw [hwb, hn7]
          obtain ⟨bsj, hbsj⟩ : ∃ bsj, bs3 ++ quad L.length ++ (L.take j).flatMap (fun x => voteB x.v) = bsj := ⟨_, rfl⟩
          have hbl5 : bsj.length ≤ 20000000000 ∧ 0 < bsj.length := by
            have h1 := flat_voteB_le (l := (L.take j).map (·.v)) fun v hv => by
              obtain ⟨y, hy, rfl⟩ := List.mem_map.1 hv
              exact (hLv y (List.mem_of_mem_take hy)).1
            rw [List.length_map, List.length_take, List.flatMap_map] at h1
            rw [← hbsj, List.length_append, List.length_append, quad_length]
            omega
          rw [hbsj] at hO5
          obtain ⟨g, hg⟩ : ∃ g, u3.ownBlock = some g := by
            rcases hO5.2 with ⟨_, h0⟩ | ⟨g, cap, cur, hv, _⟩
            · omega
            · exact ⟨g, by rw [hv]; simp [Value.ownBlock]⟩
          have hgl := World.ownsRow.lt hO5 g hg
          have hgw := hloc5 g hg
          have hng : n7 ≠ g := by omega
          have k3 := ExtG.ofBlk (i := 3) (v := .int .i64 vv) xb hng rfl
          have k5 := ExtG.ofBlk (i := 5) (v := .slice va vl.length vc) xb hng rfl
          have hKb := hK5.ext (eb.trans (Ext.drew wb))
          have hOb : OB wb.drew A u3 bsj := ob_ext hO5 (eb.trans (Ext.drew wb))
          have hszb : n7 < wb.drew.heap.size := (Array.getElem?_eq_some_iff.1 xb).1
          refine wp_region_segsG g (by kernel_rfl) [([0, 1, 2, 4, 5, 6, 8, 9], 3), ([], 7)] [] [10, 11] (by decide +kernel) (fun c a d u w h => by cases d <;> exact h) ?_
          simp only [pickO, pickS, nthO, wpSegsG]
          repeat (go_big_quiet_step (fail))
          refine wpQuiet_nil ?_
          refine live_stepG rfl (fun K hK => ?_)
          go_simp
          refine (four_at vv A u3 bsj wb.drew hOb hvb.2.1 (by omega) (by omega) (by omega)).mono ?_
          rintro e w6 ⟨v6, rfl, hO6, hg6, hat6⟩
          have hE6 : ExtG g wb.drew w6 := ExtG.of_own hg6 (fun r hr => by rw [hg] at hr; injection hr with hr; exact hr.symm)
          have hK6 := hKb.grown2 hg6 (fun r hr => hloc5 r hr)
          have hl6 : ∀ r, v6.ownBlock = some r → A < r ∧ (r < B ∨ mC.heap.size ≤ r) := fun r hr => by
            rcases hat6 r hr with h2 | h2
            · exact hloc5 r h2
            · have := hKb.size; exact ⟨by have := hEu3.size; omega, .inr (by omega)⟩
          have hl6' : ∀ r, v6.ownBlock = some r → r = g ∨ wb.drew.heap.size ≤ r := fun r hr => by
            rcases hat6 r hr with h2 | h2
            · rw [hg] at h2; injection h2 with h2; exact .inl h2.symm
            · exact .inr (Nat.le_of_lt h2)
          refine hK _ w6 wb.drew (ExtG.refl _) hE6 ?_
          clear hK K
          refine wpQuiet_nil ?_
          refine live_stepG rfl (fun K hK => ?_)
          go_simp
          refine (four_at vl.length A v6 (bsj ++ quad vv) w6 hO6 (by omega) (by omega) (by rw [List.length_append, quad_length]; omega) (by have := hK6.size; omega)).mono ?_
          rintro e w7 ⟨v7, rfl, hO7, hg7, hat7⟩
          have hE7 : ExtG g wb.drew w7 := hE6.own hg7 hl6'
          have hK7 := hK6.grown2 hg7 hl6
          have hl7 : ∀ r, v7.ownBlock = some r → A < r ∧ (r < B ∨ mC.heap.size ≤ r) := fun r hr => by
            rcases hat7 r hr with h2 | h2
            · exact hl6 r h2
            · have := hK6.size; exact ⟨by have := hEu3.size; omega, .inr (by omega)⟩
          refine hK _ w7 wb.drew (ExtG.refl _) hE7 ?_
          clear hK K
          refine wpQuiet_nil ?_
          refine wpList_append_bytes_at rfl (.tmp 50) (.tmp 52) rfl A v7 (bsj ++ quad vv ++ quad vl.length) vl rfl hO7 va vl.length vc rfl rfl ((hOL.kept hK7).vals _ (List.mem_of_getElem? hx)).bs (by simp only [List.length_append, quad_length]; omega) (by have := hK7.size; have := hEu3.size; omega) ?_
          intro v8 w8 hO8 hg8 hat8
          have hK8 := hK7.grown2 hg8 hl7
          have hl8 : ∀ r, v8.ownBlock = some r → A < r ∧ (r < B ∨ mC.heap.size ≤ r) := fun r hr => by
            rcases hat8 r hr with h2 | h2
            · exact hl7 r h2
            · have := hK7.size; exact ⟨by have := hE7.turn.size; omega, .inr (by omega)⟩
          clear k3 k5
          go_wp2_with fail
          go_roundw
          case rel =>
            refine ⟨j + 1, by simp, by omega, ?_, hl8, hK8⟩
            have he : bs3 ++ quad L.length ++ (L.take (j + 1)).flatMap (fun x => voteB x.v) = bsj ++ quad vv ++ quad vl.length ++ vl := by
              rw [← hbsj, List.take_add_one, hx]
              simp [voteB, List.append_assoc]
            rw [he]
            exact hO8
          case measure => simp only [intOf]; omega
        · have hall : L.take j = L := List.take_of_length_le (by omega)
          rw [hall] at hO5
          go_wp2_with fail
          go_roundw
          case rel =>
            have hLo := hLH.out
            refine ⟨i + 1, _, by simp, by omega, hO5, hloc5, hK5, ?_⟩
            rw [← hbs3, hLo]
            rcases (by omega : i = 0 ∨ i = 1) with rfl | rfl <;> simp [partB, List.flatMap_map]
          case measure => simp only [intOf]; omega
    · obtain rfl : i = 2 := by omega
      have hAm : A ≤ mC.heap.size := by have := hEu3.size; omega
      have hb3 := hbl 2
      simp only [show (1 : Nat) ≤ 2 from by omega, show (2 : Nat) ≤ 2 from by omega, if_true] at hO3 hb3
      rw [hl1, hl2] at hO3 hb3
      obtain ⟨bs3, hbs3⟩ : ∃ bs3, quad s.view ++ partB (s.mine 2 s.prepares) ++ partB (s.mine 3 s.commits) = bs3 := ⟨_, rfl⟩
      rw [hbs3] at hO3 hb3
      have hbpos : 0 < bs3.length := by rw [← hbs3]; simp only [List.length_append, quad_length]; omega
      have hbB : b < A := by rw [← hA]; exact (Array.getElem?_eq_some_iff.1 h.blk).1
      have hbr := hK3.block b _ (hEu3.heap h.blk) (.inl hbB)
      obtain ⟨g, hg⟩ : ∃ g, u3.ownBlock = some g := by
        rcases hO3.2 with ⟨_, h0⟩ | ⟨g, cap, cur, hv, _⟩
        · omega
        · exact ⟨g, by rw [hv]; simp [Value.ownBlock]⟩
      have hgl := World.ownsRow.lt hO3 g hg
      have hgw := hloc3 g hg
      have hbg : b ≠ g := by omega
      have d15 := cell_ofBlk (i := 15) (v := .bool s.decided) hbr rfl
      clear hbl hm1 hm2 hn1 hn2' hp1 hp2 hl1 hl2
      have hszr := hK3.size
      have hcl3 : ∀ {v : Value} {W : World}, Kept A B mC W → (∀ r, v.ownBlock = some r → r = g ∨ wr.heap.size ≤ r) → ∀ r, v.ownBlock = some r → A < r ∧ (r < B ∨ mC.heap.size ≤ r) := fun _ hv r hr => by
        rcases hv r hr with h2 | h2
        · rw [h2]; exact hgw
        · exact ⟨by omega, .inr (by omega)⟩
      have hl3 : ∀ r, u3.ownBlock = some r → r = g ∨ wr.heap.size ≤ r := fun r hr => by rw [hg] at hr; injection hr with hr; exact .inl hr.symm
      cases hd : s.decided with
      | true =>
        rw [hd] at d15
        have k16 := ExtG.ofBlk (i := 16) (v := .slice p.av s.value.length p.cv) hbr hbg rfl
        have hval := ok.value
        have hOr : OB wr.drew A u3 bs3 := ob_ext hO3 (Ext.drew wr)
        have hKr := hK3.ext (Ext.drew wr)
        go_wp2_with fail
        refine wp_region_segsG g (by kernel_rfl) [([0, 3, 4, 5, 6, 7, 9, 10, 11, 12], 1), ([], 2), ([], 8), ([], 13)] [14] [] (by decide +kernel) (fun c a d u w h => by cases d <;> exact h) ?_
        simp only [pickO, pickS, nthO, wpSegsG]
        repeat (go_big_quiet_step (fail))
        refine wpQuiet_nil ?_
        refine live_stepG rfl (fun K hK => ?_)
        go_simp
        obtain ⟨w5, hw5⟩ : ∃ w5, (wr.alloc (.cells #[.int .u8 1] 5)).drew = w5 := ⟨_, rfl⟩
        have e5 : Ext wr.drew w5 := by rw [← hw5]; exact ext_of_grown (World.grownBy_alloc wr.drew _ none)
        have x5 : BS w5 (some ⟨wr.heap.size, 0, none⟩) [1] := by rw [← hw5]; exact bs_new wr.drew _ 5 [1] rfl
        have hO5 := ob_ext hOr e5
        have hK5 := hKr.ext e5
        rw [hw5]
        refine hK _ w5 wr.drew (ExtG.refl _) (ExtG.of_ext e5) ?_
        clear hK K hw5
        refine wpQuiet_nil ?_
        refine live_stepG rfl (fun K hK => ?_)
        refine wp_append_bytes_at (.tmp 60) (.tmp 61) rfl A u3 bs3 [1] rfl hO5 (some ⟨wr.heap.size, 0, none⟩) 1 1 rfl rfl x5 (by simp; omega) (by have := hK5.size; omega) ?_
        intro v6 w6 hO6 hg6 hat6
        have hl6 : ∀ r, v6.ownBlock = some r → r = g ∨ wr.heap.size ≤ r := fun r hr => (hat6 r hr).elim (hl3 r) (fun h2 => .inr (Nat.le_trans (e5.size) h2))
        have hE6 : ExtG g wr.drew w6 := (ExtG.of_ext e5).own hg6 (fun r hr => (hl3 r hr))
        have hK6 := hK5.grown2 hg6 (hcl3 hK5 hl3)
        refine hK _ w6 wr.drew (ExtG.refl _) hE6 ?_
        clear hK K
        refine wpQuiet_nil ?_
        refine live_stepG rfl (fun K hK => ?_)
        go_simp
        refine (four_at s.value.length A v6 (bs3 ++ [1]) w6 hO6 (by omega) (by omega) (by simp; omega) (by have := hK6.size; omega)).mono ?_
        rintro e w7 ⟨v7, rfl, hO7, hg7, hat7⟩
        have hl7 : ∀ r, v7.ownBlock = some r → r = g ∨ wr.heap.size ≤ r := fun r hr => (hat7 r hr).elim (hl6 r) (fun h2 => .inr (Nat.le_trans hE6.turn.size (Nat.le_of_lt h2)))
        have hE7 : ExtG g wr.drew w7 := hE6.own hg7 hl6
        have hK7 := hK6.grown2 hg7 (hcl3 hK6 hl6)
        refine hK _ w7 wr.drew (ExtG.refl _) hE7 ?_
        clear hK K
        refine wpQuiet_nil ?_
        refine live_stepG rfl (fun K hK => ?_)
        have hbv : BB w7 p.av s.value := (h.value.ext hEu3).kept_below hK7 (fun q hq => by
          have h1 := h.value
          rw [hq] at h1
          have := h1.lt
          omega)
        refine wp_append_bytes_at (.tmp 68) (.tmp 72) rfl A v7 (bs3 ++ [1] ++ quad s.value.length) s.value rfl hO7 p.av s.value.length p.cv rfl rfl hbv.bs (by simp only [List.length_append, List.length_singleton, quad_length]; omega) (by have := hK7.size; omega) ?_
        intro v8 w8 hO8 hg8 hat8
        have hE8 : ExtG g wr.drew w8 := hE7.own hg8 hl7
        have hK8 := hK7.grown2 hg8 (hcl3 hK7 hl7)
        refine hK _ w8 wr.drew (ExtG.refl _) hE8 ?_
        clear hK K k16
        go_simp
        repeat (go_big_quiet_step (fail))
        refine wpQuiet_nil ?_
        refine wpList_nil ?_
        go_wp2_with fail
        go_ret
        refine ⟨v8, rfl, ?_, hK8.whole hEu3 (by omega), fun r hr => ?_⟩
        rotate_left
        · rcases hat8 r hr with h2 | h2
          · have := (hcl3 hK7 hl7 r h2).1; omega
          · have := hE7.turn.size; have : wr.drew.heap.size = wr.heap.size := rfl; omega
        rw [← hbs, hA]
        unfold St.bytes
        rw [hbs3, hd, if_pos rfl]
        simpa [List.append_assoc] using hO8
      | false =>
        rw [hd] at d15
        obtain ⟨w5, hw5⟩ : ∃ w5, wr.alloc (.cells #[.int .u8 0] 5) = w5 := ⟨_, rfl⟩
        have e5 : Ext wr w5 := by rw [← hw5]; exact ext_of_grown (World.grownBy_alloc wr _ none)
        have x5 : BS w5 (some ⟨wr.heap.size, 0, none⟩) [0] := by rw [← hw5]; exact bs_new wr _ 5 [0] rfl
        have hO5 := ob_ext hO3 e5
        have hK5 := hK3.ext e5
        have e5s := e5.size
        go_wp2_with (first
          | (at_builtin; refine wpList_append_bytes_at rfl (.tmp 74) (.tmp 75) rfl A u3 bs3 [0] rfl hO5 (some ⟨wr.heap.size, 0, none⟩) 1 1 rfl rfl x5 (by simp; omega) (by omega) ?_; intro v6 w6 hO6 hg6 hat6)
          | (go_at_call 58; refine (four_at 0 A v6 (bs3 ++ [0]) w6 hO6 (by omega) (by omega) (by simp; omega) (by have := hg6.size; omega)).mono ?_; rintro e w7 ⟨v7, rfl, hO7, hg7, hat7⟩))
        have hl6 : ∀ r, v6.ownBlock = some r → r = g ∨ wr.heap.size ≤ r := fun r hr => (hat6 r hr).elim (hl3 r) (fun h2 => .inr (Nat.le_trans e5s h2))
        have hK6 := hK5.grown2 hg6 (hcl3 hK5 hl3)
        have hK7 := hK6.grown2 hg7 (hcl3 hK6 hl6)
        go_ret
        refine ⟨v7, rfl, ?_, hK7.whole hEu3 (by omega), fun r hr => ?_⟩
        rotate_left
        · rcases hat7 r hr with h2 | h2
          · have := (hcl3 hK6 hl6 r h2).1; omega
          · have := hK6.size; have := hg6.size; omega
        rw [← hbs, hA]
        unfold St.bytes
        rw [hbs3, hd, if_neg (by simp)]
        simpa [List.append_assoc] using hO7
end
end Go.Proofs.Ytiofkiaibcmdhaa
