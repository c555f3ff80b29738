import Derived.Test.YtiofkiaibcmdhaaKnow
import Derived.Test.YtiofkiaibcmdhaaSeg2
import Derived.OneCell
namespace Go.Proofs.Ytiofkiaibcmdhaa
open Go Go.RowKit

/-- A writer: its block, what it has written. -/
structure WriterAt (w : World) (wb base : Nat) (l : List UInt8) (bad : Bool) (v : Value) : Prop where
  blk : w.heap[wb]? = some (.cells #[v, .bool bad] 121)
  own : OB w base v l
  le : base ≤ wb

theorem OB.ne {w : World} {base : Nat} {v : Value} {l : List UInt8} (h : OB w base v l) {b : Nat} {cs : Array Value} {t : TypeId} (hb : w.heap[b]? = some (.cells cs t)) (ht : t ≠ 5) : v.ownBlock ≠ some b := by
  rcases h.2 with ⟨rfl, _⟩ | ⟨g, cap, cur, rfl, _, hg, _⟩
  · simp [Value.ownBlock]
  · intro e
    have e2 : g = b := by simpa [Value.ownBlock] using e
    subst e2
    rw [hg] at hb
    injection hb with hb
    injection hb with _ h2 _
    exact ht h2.symm
theorem OB.set {w : World} {base : Nat} {v : Value} {l : List UInt8} (h : OB w base v l) {b i : Nat} {cs : Array Value} {t : TypeId} (hb : w.heap[b]? = some (.cells cs t)) (ht : t ≠ 5) (u : Value) : OB (w.setCell ⟨b, i, none⟩ u) base v l :=
  ownsRow_setCell_other h (h.ne hb ht) u

set_option maxRecDepth 100000 in
set_option maxHeartbeats 1000000 in
theorem num_any (wb base : Nat) (l : List UInt8) (bad : Bool) (v : Value) (n lo hi : Int) (size : Nat) (w : World) (h : WriterAt w wb base l bad v) (hs : size ≤ 4) (hl : l.length ≤ 100000) (_hn : -9223372036854775808 ≤ n ∧ n ≤ 9223372036854775807) :
    Calls Try.prog 64 #[.pointer (some ⟨wb, 0, none⟩), .int .i64 n, .int .i64 lo, .int .i64 hi, .int .i64 size] w fun e w' => e = .returned (.tuple #[]) ∧
      ∃ v' l', WriterAt w' wb base l' (bad || decide (n < lo) || decide (hi < n)) v' ∧ l'.length = l.length + size ∧ Below base w w' := by
  have d1 := cell_ofBlk (i := 1) (v := .bool bad) h.blk rfl
  have f1 := frozen_ofBlk (i := 1) h.blk
  obtain ⟨bd, hbd⟩ : ∃ bd, (bad || decide (n < lo) || decide (hi < n)) = bd := ⟨_, rfl⟩
  rw [hbd]
  have hW : ∀ X, (X = bd) → WriterAt (w.setCell ⟨wb, 1, none⟩ (.bool X)) wb base l bd v := fun X hX => by
    subst hX
    exact ⟨heap_setCell_blk h.blk 1 _, h.own.set h.blk (by decide) _, h.le⟩
  have hB : ∀ X, Below base w (w.setCell ⟨wb, 1, none⟩ (.bool X)) := fun X => (Below.refl _ w).setCell (p := ⟨wb, 1, none⟩) h.le _
  go_enter Try.func64, Try.ntmps64
  go_wp2_with fail
  all_goals
    (generalize hX : w.setCell ⟨wb, 1, none⟩ _ = w1)
  all_goals
    go_loopw [10] (fun i wr => ∃ k : Nat, i = .int .i64 ((k : Int) - 1) ∧ k ≤ size ∧ ∃ v' l', WriterAt wr wb base l' bd v' ∧ l'.length = l.length + (size - k) ∧ Below base w wr) (fun i _ => (intOf i + 1).toNat)
  all_goals first
    | (case atStart => exact ⟨size, rfl, Nat.le_refl _, v, l, hX ▸ hW _ (by rw [← hbd]; simp_all), by omega, hX ▸ hB _⟩)
    | skip
  all_goals
    (obtain ⟨k, rfl, hk, v', l', hW1, hl1', hB1⟩ := hrel
     have hl1 := hl1'.symm
     clear hl1'
     cases k with
     | zero =>
       go_wp2_with fail
       (try simp only [Exit.inBlock, Exit.then])
       refine bodyPost_end (results_none rfl _ _ _) rfl ?_
       exact ⟨rfl, v', l', hW1, by omega, hB1⟩
     | succ k =>
       have c0 := Ext.ofBlk (i := 0) (v := v') hW1.blk rfl
       have hkk : ((k + 1 : Nat) : Int) - 1 = (k : Int) := by omega
       rw [hkk]
       go_wp2_with fail
       refine wp_region_segs2 (by kernel_rfl) [([1, 2, 3, 4, 5, 6, 7, 8, 9, 10], [0], 11)] [] [] [12, 13, 14, 15] (by decide +kernel) (fun c a d u w h => by cases d <;> exact h) ?_
       simp only [pickO, pickS2, nthO, wpSegs2]
       repeat (go_big_quiet_step (fail))
       refine wpQuiet_nil ?_
       repeat (go_big_quiet_step (fail))
       refine wpQuiet_nil ?_
       refine live_step rfl (fun K hK => ?_)
       go_simp
       obtain ⟨X, hXX⟩ : ∃ X, IntKind.u64.wrap n / 2 ^ (8 * k) % 256 = X := ⟨_, rfl⟩
       have hX0 : 0 ≤ X ∧ X < 256 := by rw [← hXX]; exact ⟨Int.emod_nonneg _ (by omega), Int.emod_lt_of_pos _ (by omega)⟩
       rw [hXX]
       clear hXX
       obtain ⟨w2, hw2⟩ : ∃ w2, (wr.alloc (Obj.cells #[Value.int IntKind.u8 X] 5)).drew = w2 := ⟨_, rfl⟩
       have e2 : Ext wr.drew w2 := by rw [← hw2]; exact ext_of_grown (World.grownBy_alloc wr.drew _ none)
       have hsrc : BS w2 (some ⟨wr.heap.size, 0, none⟩) [UInt8.ofNat X.toNat] := by
         rw [← hw2]
         exact bs_new wr.drew #[.int .u8 X] 5 [UInt8.ofNat X.toNat] (by simp only [List.map]; rw [byteV_ofNat _ (by omega)]; congr 2; omega)
       have hown2 : OB w2 base v' l' := by rw [← hw2]; exact hW1.own.alloc _
       have e12 : Ext wr w2 := (Ext.drew wr).trans e2
       have hblk2 := e12.heap hW1.blk
       have hsz2 : base ≤ w2.heap.size := by have := hW1.le; have := (Array.getElem?_eq_some_iff.1 hblk2).1; omega
       rw [hw2]
       refine hK _ w2 w2 e2 (Ext.refl _) ?_
       clear hK K hw2
       refine wpQuiet_nil ?_
       refine wpQuiet_nil ?_
       go_wp2_with (at_builtin; refine wpList_append_bytes rfl (.tmp 38) (.tmp 45) rfl base v' l' [UInt8.ofNat X.toNat] rfl hown2 (some ⟨wr.heap.size, 0, none⟩) 1 1 rfl rfl hsrc (by simp; omega) hsz2 ?_; intro v3 w3 hown3 hg3; have hblk3 := (hg3.block wb (Array.getElem?_eq_some_iff.1 hblk2).1 (fun e => hown2.ne hblk2 (by decide) e.symm)).trans hblk2; obtain ⟨a3, c3, rfl, _⟩ := hown3.form; rw [List.length_append, List.length_singleton] at hown3; have k0 := cell_ofBlk (i := 0) (v := v') hblk3 rfl; have f0 := frozen_ofBlk (i := 0) hblk3)
       go_roundw
       case rel =>
         have hBw2 : Below base wr w2 := by
           refine (e12.turn []).below ?_ (by simp)
           have := hW1.le; have := (Array.getElem?_eq_some_iff.1 hW1.blk).1; omega
         refine ⟨k, rfl, by omega, _, _, ⟨heap_setCell_blk hblk3 0 _, hown3.set hblk3 (by decide) _, hW1.le⟩, by rw [List.length_append, List.length_singleton]; omega, hB1.trans ((hBw2.trans ?_).setCell (p := ⟨wb, 0, none⟩) hW1.le _)⟩
         exact (Below.refl base w2).grown hg3 hsz2 (fun j e => (hown2.lt j e).1)
       case measure => simp only [intOf]; omega)

set_option maxRecDepth 100000 in
set_option maxHeartbeats 1000000 in
theorem text_any (wb base : Nat) (l : List UInt8) (bad : Bool) (v : Value) (a : Option Addr) (c : Nat) (t : List UInt8) (most : Int) (w : World) (h : WriterAt w wb base l bad v) (hl : l.length ≤ 50000) (ht : t.length ≤ 100000) (hb : BS w a t) (hbb : ∀ p, a = some p → t ≠ [] → p.block < base) (_hm : 0 ≤ most ∧ most ≤ 10000) :
    Calls Try.prog 65 #[.pointer (some ⟨wb, 0, none⟩), .slice a t.length c, .int .i64 most] w fun e w' => e = .returned (.tuple #[]) ∧
      ∃ v' l', WriterAt w' wb base l' (bad || decide (most < t.length)) v' ∧ Below base w w' := by
  have d1 := cell_ofBlk (i := 1) (v := .bool bad) h.blk rfl
  have f1 := frozen_ofBlk (i := 1) h.blk
  obtain ⟨bd, hbd⟩ : ∃ bd, (bad || decide (most < t.length)) = bd := ⟨_, rfl⟩
  rw [hbd]
  by_cases hlt : most < (t.length : Int)
  · have hX : WriterAt (w.setCell ⟨wb, 1, none⟩ (.bool true)) wb base l bd v := by
      have : bd = true := by rw [← hbd, decide_eq_true hlt, Bool.or_true]
      rw [this]
      exact ⟨heap_setCell_blk h.blk 1 _, h.own.set h.blk (by decide) _, h.le⟩
    go_enter Try.func65, Try.ntmps65
    go_wp2_with fail
    (try simp only [Exit.inBlock, Exit.then])
    refine bodyPost_ret (results_none rfl _ _ _) rfl ?_
    exact ⟨rfl, v, l, hX, (Below.refl _ w).setCell (p := ⟨wb, 1, none⟩) h.le _⟩
  · have hbd' : bd = bad := by rw [← hbd, decide_eq_false hlt, Bool.or_false]
    subst hbd'
    clear hbd
    go_enter Try.func65, Try.ntmps65
    go_wp2_with (first
      | (go_at_call 64; refine (num_any wb base l bd v t.length 0 most 2 w h (by omega) (by omega) (by omega)).mono ?_; rintro e w2 ⟨rfl, v2, l2, hW2, hl2', hB2⟩
         have hl2 := hl2'.symm
         clear hl2'
         have hb0 : (bd || decide ((t.length : Int) < 0) || decide (most < (t.length : Int))) = bd := by rw [decide_eq_false (by omega), decide_eq_false hlt]; simp
         rw [hb0] at hW2
         have d0 := cell_ofBlk (i := 0) (v := v2) hW2.blk rfl
         have hb2 : BS w2 a t := hb.of_block fun p hp hl => hB2.block p.block (hbb p hp hl)
         have hsz := (Array.getElem?_eq_some_iff.1 hW2.blk).1)
      | (at_builtin; refine wpList_append_bytes rfl (.tmp 22) (.tmp 23) rfl base v2 l2 t rfl hW2.own a t.length c rfl rfl hb2 (by omega) (by have := hW2.le; omega) ?_; intro v3 w3 hown3 hg3; have hblk3 := (hg3.block wb hsz (fun e => hW2.own.ne hW2.blk (by decide) e.symm)).trans hW2.blk; obtain ⟨a3, c3, rfl, _⟩ := hown3.form; rw [List.length_append] at hown3; have k0 := cell_ofBlk (i := 0) (v := v2) hblk3 rfl; have f0 := frozen_ofBlk (i := 0) hblk3))
    go_end0
    refine ⟨rfl, _, _, ⟨heap_setCell_blk hblk3 0 _, hown3.set hblk3 (by decide) _, h.le⟩, (hB2.trans ?_).setCell (p := ⟨wb, 0, none⟩) h.le _⟩
    exact (Below.refl base w2).grown hg3 (by have := hW2.le; omega) (fun j e => (hW2.own.lt j e).1)

theorem OB.made (w : World) (b : UInt8) : OB (w.alloc (.cells #[byteV b] 5)) w.heap.size (.slice (some ⟨w.heap.size, 0, none⟩) 1 1) [b] :=
  ⟨rfl, .inr ⟨w.heap.size, 1, #[byteV b], rfl, Nat.le_refl _, heap_alloc_new w _, Nat.le_refl _, by simp [maxLen], rfl, rfl⟩⟩

theorem ext1_of {N : Nat} {w w' : World} (h : Below N w w') (hN : w.heap.size ≤ N) : Ext w w' := ext_of_below (h.mono hN)

/-- What EncodeVote hands back. -/
def EncPost (v : Vt) (w : World) (e : Ending) (w' : World) : Prop := Ext w w' ∧ ∃ x, e = .returned (.tuple #[x, .int .i64 (if v.right then 0 else 3)])

def Vt.fits (v : Vt) : Prop := (-9223372036854775808 ≤ v.kind ∧ v.kind ≤ 9223372036854775807) ∧ (-9223372036854775808 ≤ v.from_ ∧ v.from_ ≤ 9223372036854775807) ∧ (-9223372036854775808 ≤ v.slot ∧ v.slot ≤ 9223372036854775807) ∧
  (-9223372036854775808 ≤ v.view ∧ v.view ≤ 9223372036854775807) ∧ (-9223372036854775808 ≤ v.valid ∧ v.valid ≤ 9223372036854775807) ∧ v.value.length ≤ 100000

set_option maxRecDepth 100000 in
set_option maxHeartbeats 2000000 in
theorem encode_any (v : Vt) (a : Option Addr) (c : Nat) (w : World) (hf : v.fits) (hb : BS w a v.value) :
    Calls Try.prog 24 #[.agg (voteCells v a c)] w (EncPost v w) := by
  obtain ⟨kind, from_, slot, view, valid, value⟩ := v
  obtain ⟨f1, f2, f3, f4, f5, f6⟩ := hf
  simp only at f1 f2 f3 f4 f5 f6 hb
  obtain ⟨w1, hw1⟩ : ∃ w1, w.alloc (.cells #[.int .i64 kind, .int .i64 from_, .int .i64 slot, .int .i64 view, .int .i64 valid, .slice a value.length c] 31) = w1 := ⟨_, rfl⟩
  obtain ⟨n0, hn0⟩ : ∃ n0, w.heap.size = n0 := ⟨_, rfl⟩
  have e1 : Ext w w1 := by rw [← hw1]; exact ext_of_grown (World.grownBy_alloc w _ none)
  have x1 : w1.heap[n0]? = some (.cells #[.int .i64 kind, .int .i64 from_, .int .i64 slot, .int .i64 view, .int .i64 valid, .slice a value.length c] 31) := by rw [← hw1, ← hn0]; exact heap_alloc_new w _
  have hn1 : w1.heap.size = n0 + 1 := by rw [← hw1, ← hn0]; simp
  have y0 := cell_ofBlk (i := 0) (v := .int .i64 kind) x1 rfl
  obtain ⟨er, her⟩ : ∃ er : Int, (if (Vt.mk kind from_ slot view valid value).right then 0 else 3) = er := ⟨_, rfl⟩
  have hpost : ∀ e w', (Ext w w' ∧ ∃ x, e = .returned (.tuple #[x, .int .i64 er])) → EncPost (Vt.mk kind from_ slot view valid value) w e w' := fun e w' hh => by unfold EncPost; rw [her]; exact hh
  have hbb : ∀ p, a = some p → value ≠ [] → p.block < n0 + 1 := fun p hp hl => by subst hp; have := hb.lt hl; omega
  refine Calls.mono ?_ hpost
  show Calls Try.prog 24 #[.agg #[.int .i64 kind, .int .i64 from_, .int .i64 slot, .int .i64 view, .int .i64 valid, .slice a value.length c]] w _
  go_enter Try.func24, Try.ntmps24
  obtain ⟨u0, hu0⟩ : ∃ u0, (w1.alloc (.cells #[.int .u8 86] 5)).alloc (.cells #[.slice (some ⟨n0 + 1, 0, none⟩) 1 1, .bool false] 121) = u0 := ⟨_, rfl⟩
  have hW0 : WriterAt u0 (n0 + 1 + 1) (n0 + 1) [86] false (.slice (some ⟨n0 + 1, 0, none⟩) 1 1) := by
    rw [← hu0]
    refine ⟨?_, ?_, by omega⟩
    · have := heap_alloc_new (w1.alloc (.cells #[.int .u8 86] 5)) (.cells #[.slice (some ⟨n0 + 1, 0, none⟩) 1 1, .bool false] 121)
      rw [World.size_alloc, hn1] at this
      exact this
    · have := OB.made w1 86
      rw [hn1] at this
      exact this.alloc _
  have hB0 : Below (n0 + 1) w1 u0 := by
    rw [← hu0]
    exact ((Below.refl _ w1).alloc (by omega) _).alloc (by simp; omega) _
  have hl0 : ([86] : List UInt8).length = 1 := rfl
  have y0' := (hB0.cell (p := ⟨n0, 0, none⟩) (by simp)).trans y0
  clear y0
  go_wp2_with fail
  refine (num_any (n0 + 1 + 1) (n0 + 1) [86] false (.slice (some ⟨n0 + 1, 0, none⟩) 1 1) kind 1 5 1 u0 hW0 (by omega) (by omega) f1).mono ?_
  rintro e u1 ⟨rfl, v1, l1, hW1', hl1, hB1'⟩
  obtain ⟨b1, hb1⟩ : ∃ b, (false || decide (kind < 1) || decide (5 < kind)) = b := ⟨_, rfl⟩
  rw [hb1] at hW1'
  have hW1 := hW1'
  have hB1 : Below (n0 + 1) w1 u1 := hB0.trans hB1'
  clear hW1' hB1'
  have y1 := (hB1.cell (p := ⟨n0, 1, none⟩) (by simp)).trans (cell_ofBlk (i := 1) (v := .int .i64 from_) x1 rfl)
  go_wp2_with fail
  refine (num_any (n0 + 1 + 1) (n0 + 1) l1 b1 v1 from_ 1 64 1 u1 hW1 (by omega) (by omega) f2).mono ?_
  rintro e u2 ⟨rfl, v2, l2, hW2', hl2, hB2'⟩
  obtain ⟨b2, hb2⟩ : ∃ b, (b1 || decide (from_ < 1) || decide (64 < from_)) = b := ⟨_, rfl⟩
  rw [hb2] at hW2'
  have hW2 := hW2'
  have hB2 : Below (n0 + 1) w1 u2 := hB1.trans hB2'
  clear hW2' hB2'
  have y2 := (hB2.cell (p := ⟨n0, 2, none⟩) (by simp)).trans (cell_ofBlk (i := 2) (v := .int .i64 slot) x1 rfl)
  go_wp2_with fail
  refine (num_any (n0 + 1 + 1) (n0 + 1) l2 b2 v2 slot 0 256 4 u2 hW2 (by omega) (by omega) f3).mono ?_
  rintro e u3 ⟨rfl, v3, l3, hW3', hl3, hB3'⟩
  obtain ⟨b3, hb3⟩ : ∃ b, (b2 || decide (slot < 0) || decide (256 < slot)) = b := ⟨_, rfl⟩
  rw [hb3] at hW3'
  have hW3 := hW3'
  have hB3 : Below (n0 + 1) w1 u3 := hB2.trans hB3'
  clear hW3' hB3'
  have y3 := (hB3.cell (p := ⟨n0, 3, none⟩) (by simp)).trans (cell_ofBlk (i := 3) (v := .int .i64 view) x1 rfl)
  go_wp2_with fail
  refine (num_any (n0 + 1 + 1) (n0 + 1) l3 b3 v3 view 0 1048576 4 u3 hW3 (by omega) (by omega) f4).mono ?_
  rintro e u4 ⟨rfl, v4, l4, hW4', hl4, hB4'⟩
  obtain ⟨b4, hb4⟩ : ∃ b, (b3 || decide (view < 0) || decide (1048576 < view)) = b := ⟨_, rfl⟩
  rw [hb4] at hW4'
  have hW4 := hW4'
  have hB4 : Below (n0 + 1) w1 u4 := hB3.trans hB4'
  clear hW4' hB4'
  have y4 := (hB4.cell (p := ⟨n0, 4, none⟩) (by simp)).trans (cell_ofBlk (i := 4) (v := .int .i64 valid) x1 rfl)
  by_cases hv1 : valid < -1
  · have hr : er = 3 := by rw [← her, if_neg]; intro hr; have := (Vt.right_spec hr).2.2.2.2.1.1; simp only at this; omega
    subst hr
    go_wp2_with fail
    go_ret2
    exact ⟨e1.trans (ext1_of hB4 (by omega)), _, rfl⟩
  by_cases hv2 : 1048576 < valid
  · have hr : er = 3 := by rw [← her, if_neg]; intro hr; have := (Vt.right_spec hr).2.2.2.2.1.2; simp only at this; omega
    subst hr
    have hv1' : -1 ≤ valid := by omega
    go_wp2_with fail
    go_ret2
    exact ⟨e1.trans (ext1_of hB4 (by omega)), _, rfl⟩
  have hv1' : -1 ≤ valid := by omega
  have hv2' : valid ≤ 1048576 := by omega
  go_wp2_with fail
  refine (num_any (n0 + 1 + 1) (n0 + 1) l4 b4 v4 (valid + 1) 0 1048577 4 u4 hW4 (by omega) (by omega) (by omega)).mono ?_
  rintro e u5 ⟨rfl, v5, l5, hW5', hl5, hB5'⟩
  obtain ⟨b5, hb5⟩ : ∃ b, (b4 || decide ((valid + 1) < 0) || decide (1048577 < (valid + 1))) = b := ⟨_, rfl⟩
  rw [hb5] at hW5'
  have hW5 := hW5'
  have hB5 : Below (n0 + 1) w1 u5 := hB4.trans hB5'
  clear hW5' hB5'
  have y5 := (hB5.cell (p := ⟨n0, 5, none⟩) (by simp)).trans (cell_ofBlk (i := 5) (v := .slice a value.length c) x1 rfl)
  go_wp2_with fail
  have hbv : BS u5 a value := (hb.ext e1).of_block fun p hp hl => hB5.block p.block (hbb p hp hl)
  refine (text_any (n0 + 1 + 1) (n0 + 1) l5 b5 v5 a c value 4096 u5 hW5 (by omega) (by omega) hbv hbb (by omega)).mono ?_
  rintro e u6 ⟨rfl, v6, l6, hW6, hB6'⟩
  have hB6 := hB5.trans hB6'
  have hright : (Vt.mk kind from_ slot view valid value).right = !(b5 || decide ((4096 : Int) < value.length)) := by
    rw [← hb5, ← hb4, ← hb3, ← hb2, ← hb1]
    unfold Vt.right
    rw [Bool.eq_iff_iff]
    simp only [Bool.and_eq_true, Bool.not_eq_true', Bool.or_eq_false_iff, decide_eq_true_eq, decide_eq_false_iff_not, Bool.false_or]
    omega
  obtain ⟨b6, hb6⟩ : ∃ b, (b5 || decide ((4096 : Int) < value.length)) = b := ⟨_, rfl⟩
  rw [hb6] at hW6 hright
  have d1 := cell_ofBlk (i := 1) (v := .bool b6) hW6.blk rfl
  have d0 := cell_ofBlk (i := 0) (v := v6) hW6.blk rfl
  obtain ⟨a6, c6, rfl, _⟩ := hW6.own.form
  rw [hright] at her
  clear hright hb1 hb2 hb3 hb4 hb5 hb6
  cases b6 with
  | true =>
    have hr : er = 3 := by rw [← her]; rfl
    subst hr
    go_wp2_with fail
    go_ret2
    exact ⟨e1.trans (ext1_of hB6 (by omega)), _, rfl⟩
  | false =>
    have hr : er = 0 := by rw [← her]; rfl
    subst hr
    go_wp2_with fail
    go_ret2
    exact ⟨e1.trans (ext1_of hB6 (by omega)), _, rfl⟩
end Go.Proofs.Ytiofkiaibcmdhaa