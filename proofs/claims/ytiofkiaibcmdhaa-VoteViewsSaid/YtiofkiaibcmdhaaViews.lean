import Derived.Test.YtiofkiaibcmdhaaArith
import Derived.Test.YtiofkiaibcmdhaaSegTG
import Derived.Deep.CutRange
import Derived.Deep.CutBlock
namespace Go.Proofs.Ytiofkiaibcmdhaa
open Go Go.RowKit

/-! ### what VoteViews asks, of the core alone -/

theorem bytes_same {s t : St} (ok : s.Ok) (ok2 : t.Ok) (h : Came s t) (hv : t.view = s.view) (h1 : t.count t.prepares = s.count s.prepares) (h2 : t.count t.commits = s.count s.commits) (hd : t.decided = s.decided) : t.bytes = s.bytes := by
  have e1 : ownL t.prepares t.me = ownL s.prepares s.me := by
    refine (own_same (ownL_strict ok.preps.1 s.me) (ownL_strict ok2.preps.1 t.me) (fun x hx => ?_) ?_).symm
    · obtain ⟨v, y⟩ := x
      rw [h.me]
      exact mem_ownL.2 (h.preps v y (mem_ownL.1 hx))
    · rw [count_own ok2.preps.1, count_own ok.preps.1] at h1
      omega
  have e2 : ownL t.commits t.me = ownL s.commits s.me := by
    refine (own_same (ownL_strict ok.comms.1 s.me) (ownL_strict ok2.comms.1 t.me) (fun x hx => ?_) ?_).symm
    · obtain ⟨v, y⟩ := x
      rw [h.me]
      exact mem_ownL.2 (h.comms v y (mem_ownL.1 hx))
    · rw [count_own ok2.comms.1, count_own ok.comms.1] at h2
      omega
  unfold St.bytes
  rw [mine_own, mine_own, mine_own, mine_own, e1, e2, hv, hd, h.me, h.slot]
  cases hdd : s.decided with
  | false => rfl
  | true => rw [(h.decided hdd).2]

theorem came_heeds {okf : Bytes → Bool} {o : Option St} {s u : St} (ho : Own s) (h : ∀ t, o = some t → Came s t ∧ Own t) (hh : Heeds okf o s u) : Came s u ∧ Own u := by
  cases o with
  | none => have hh : u = s := hh; subst hh; exact ⟨Came.refl _, ho⟩
  | some t =>
    obtain ⟨h1, h2⟩ := h t rfl
    obtain ⟨h3, h4⟩ := came_acts (show Acts okf t u from hh) h2
    exact ⟨h1.trans h3, h4⟩

set_option maxRecDepth 100000 in
theorem grown_nil (w : World) : Calls Try.prog 17 #[.pointer none] w fun e w' => e = .returned (.agg #[.int .i64 0, .int .i64 0, .int .i64 0]) ∧ Ext w w' := by
  go_enter Try.func17, Try.ntmps17
  go_wp2
  have x := heap_alloc_new w (.cells #[.int .i64 0, .int .i64 0, .int .i64 0] 35)
  have r0 := cell_ofBlk (i := 0) (v := .int .i64 0) x rfl
  have r1 := cell_ofBlk (i := 1) (v := .int .i64 0) x rfl
  have r2 := cell_ofBlk (i := 2) (v := .int .i64 0) x rfl
  refine bodyPost_ret_by (v := .agg #[.int .i64 0, .int .i64 0, .int .i64 0]) ?_ rfl ⟨rfl, ext_of_grown (World.grownBy_alloc w _ none)⟩
  simp [results, Try.f17, go_sem, r0, r1, r2]

theorem BB.laterG {g : Nat} {w : World} {x : MoreG} {a : Option Addr} {l : List UInt8} (h : BB w a l) (hne : ∀ p, a = some p → p.block ≠ g) : BB (laterG g w x) a l := by
  cases a with
  | none => exact h
  | some p =>
    obtain ⟨hs, cs, fz, h1, h2⟩ := h
    exact ⟨hs, cs, fz, laterG_heap h1 (hne p rfl), h2⟩

/-- A slice of bytes that the call owns: its form, and its block. -/
theorem OB.parts {w : World} {base : Nat} {v : Value} {l : List UInt8} (h : OB w base v l) : ∃ a cap, v = .slice a l.length cap ∧ BB w a l ∧ ∀ p, a = some p → v.ownBlock = some p.block := by
  obtain ⟨a, cap, h1, h2, _⟩ := h.form
  refine ⟨a, cap, h1, h2, fun p hp => ?_⟩
  rcases h.2 with ⟨rfl, _⟩ | ⟨g, cp, cur, hv, _⟩
  · injection h1 with h1; rw [← h1] at hp; cases hp
  · rw [hv] at h1 ⊢
    injection h1 with h1
    rw [← h1] at hp
    injection hp with hp
    subst hp
    simp [Value.ownBlock]

/-- Three cells, stored anew. -/
def set3 (w : World) (g : Nat) (a b c : Value) : World := ((w.setCell ⟨g, 0, none⟩ a).setCell ⟨g, 1, none⟩ b).setCell ⟨g, 2, none⟩ c
theorem set3_heap {w : World} {g : Nat} {x y z a b c : Value} {t : TypeId} (h : w.heap[g]? = some (.cells #[x, y, z] t)) : (set3 w g a b c).heap[g]? = some (.cells #[a, b, c] t) :=
  heap_setCell_blk (heap_setCell_blk (heap_setCell_blk h 0 a) 1 b) 2 c
theorem set3_turn {w : World} {g : Nat} {a b c : Value} : Turn [g] w (set3 w g a b c) := by
  have h1 := Turn.setCell w ⟨g, 0, none⟩ a
  have h2 := Turn.setCell (w.setCell ⟨g, 0, none⟩ a) ⟨g, 1, none⟩ b
  have h3 := Turn.setCell ((w.setCell ⟨g, 0, none⟩ a).setCell ⟨g, 1, none⟩ b) ⟨g, 2, none⟩ c
  exact (h1.trans h2 (fun x hx => .inl hx)).trans h3 (fun x hx => .inl hx)

/-- What a core hands back as decided. -/
def decV (s : St) : Bytes := if s.decided then s.value else []
/-- What a value that a core hands back reads as. -/
def decStr (s : St) : ByteArray := strOf (decV s)
theorem decided_parts {s : St} {w' : World} {e : Ending} (h : if s.decided then ∃ a c, e = .returned (.tuple #[.slice a s.value.length c, .bool true]) ∧ BB w' a s.value else e = .returned (.tuple #[.slice none 0 0, .bool false])) :
    ∃ a c, e = .returned (.tuple #[.slice a (decV s).length c, .bool s.decided]) ∧ BB w' a (decV s) := by
  unfold decV
  cases hd : s.decided with
  | true => rw [if_pos hd] at h; simpa using h
  | false => rw [if_neg (by simp [hd])] at h; exact ⟨none, 0, by simpa using h, rfl⟩

set_option maxRecDepth 100000 in
set_option maxHeartbeats 4000000 in
theorem views_of (n me slot : Int) (a : Option Addr) (c : Nat) (ys : List ActD) (w : World) (h : ActsAt w a ys) :
    Calls Try.prog 3 #[.int .i64 n, .int .i64 me, .int .i64 slot, .slice a ys.length c] w fun e w' => e = .returned (.bool true) ∧ Ext w w' := by
  obtain ⟨fb, hfb⟩ : ∃ fb, fewActs ys = fb := ⟨_, rfl⟩
  cases fb with
  | false =>
    go_enter Try.func3, Try.ntmps3
    go_wp2_with (first
      | (go_at_call 12; refine (lives_of _).mono ?_; rintro e w1 ⟨rfl, hE1⟩)
      | (go_at_call 13; refine (few_of a c ys.length ys w1 (h.ext hE1) rfl).mono ?_; rintro e w2 ⟨rfl, hE2⟩; rw [hfb]))
    go_ret
    exact ⟨rfl, (Ext.trans (by assumption) hE2).trans hE1⟩
  | true =>
    obtain ⟨N, hN, hN4, hN12⟩ := umod_plus 4 n (k := 9) (by omega) (by omega) (by omega) (by omega)
    have hNw := wrapU_small (z := N) (by omega) (by omega)
    obtain ⟨M, hM, hM1, hMN⟩ := umod_plus 1 me (k := N) (by omega) (by omega) (by omega) (by omega)
    obtain ⟨S, hS, hS0, hS1⟩ := umod_bare slot (k := 257) (by omega) (by omega)
    have hNz : ¬ N = 0 := by omega
    go_enter Try.func3, Try.ntmps3
    go_wp2_with (first
      | (go_at_call 12; refine (lives_of _).mono ?_; rintro e w1 ⟨rfl, hE1⟩)
      | (go_at_call 13; refine (few_of a c ys.length ys w1 (h.ext hE1) rfl).mono ?_; rintro e w2 ⟨rfl, hE2⟩; rw [hfb])
      | (go_at_call 14; refine (new_of 15 N M S w2 (by omega) (by omega) (by omega)).mono ?_; rintro e w3 ⟨b, fp0, rfl, hC0, hE3, hfp0⟩))
    have hE03 : Ext w w3 := (hE1.trans hE2).trans hE3
    have hys : ys.length ≤ 100 := by
      unfold fewActs at hfb
      simp only [Bool.and_eq_true, decide_eq_true_eq] at hfb
      exact hfb.1
    have hsm : ∀ y ∈ ys, y.value.length ≤ 100 ∧ y.v.value.length ≤ 100 := by
      unfold fewActs at hfb
      simp only [Bool.and_eq_true, decide_eq_true_eq, List.all_eq_true, actSmall] at hfb
      exact hfb.2
    have hlow0 : ∀ k ∈ fp0, w.heap.size ≤ k := fun k hk => by have := hfp0 k hk; have := (hE1.trans hE2).size; omega
    obtain ⟨K0, hK0⟩ : ∃ K0, w.heap.size = K0 := ⟨_, rfl⟩
    rw [hK0] at hlow0
    clear hfb hN hNw hM hS hNz hE1 hE2 hE3 hfp0
    go_loopw [10, 11, 12, 57] (fun v10 v11 v12 v57 wr => ∃ (i : Nat) (s : St) (fp : List Nat), v57 = .int .i64 i ∧ i ≤ ys.length ∧ v10 = .int .i64 s.view ∧ v11 = .string (decStr s) ∧ v12 = .bool s.decided ∧ CoreAt 15 wr b fp s ∧ s.Ok ∧ Own s ∧ s.me = M ∧ s.slot = S ∧ (∀ k ∈ fp, K0 ≤ k) ∧ Ext w wr)
      (fun _ _ _ v _ => ys.length - (intOf v).toNat)
    case atStart => exact ⟨0, _, fp0, rfl, by omega, rfl, rfl, rfl, hC0, fresh_ok (by omega) (by omega) (by omega), own_fresh _ _ _, rfl, rfl, hlow0, hE03⟩
    case round =>
      obtain ⟨i, s, fp, rfl, hi, rfl, rfl, rfl, hC, ok, own, hme, hsl, hlow, hE⟩ := hrel
      clear hC0 hlow0 hE03
      by_cases hlt : i < ys.length
      · obtain ⟨y, hy⟩ : ∃ y, ys[i]? = some y := ⟨_, List.getElem?_eq_getElem hlt⟩
        obtain ⟨ab, ao, rfl, hrg⟩ := (h.ext hE).at hy
        have hya := (h.ext hE).each y (List.mem_of_getElem? hy)
        have hsy := hsm y (List.mem_of_getElem? hy)
        obtain ⟨kind, ⟨vk, vf, vs, vv, vd, vl⟩, va, vc, xl, xa, xc⟩ := y
        have hrg2 : wr.rangeAt ab (ao + i * 8) [.int .i64 kind, .int .i64 vk, .int .i64 vf, .int .i64 vs, .int .i64 vv, .int .i64 vd, .slice va vl.length vc, .slice xa xl.length xc] := hrg
        clear hrg
        go_upto_region 14 with (refine wpList_load_mid rfl 33 (.tmp 59) rfl ab (ao + i * 8) rfl _ _ hrg2 Try.underlying33 rfl (by kernel_rfl) ?_)
        obtain ⟨n15, hn15⟩ : ∃ n15, wr.heap.size = n15 := ⟨_, rfl⟩
        obtain ⟨w0, hw0⟩ : ∃ w0, wr.alloc (.cells #[.int .i64 kind, .int .i64 vk, .int .i64 vf, .int .i64 vs, .int .i64 vv, .int .i64 vd, .slice va vl.length vc, .slice xa xl.length xc] 33) = w0 := ⟨_, rfl⟩
        have e0 : Ext wr w0 := by rw [← hw0]; exact ext_of_grown (World.grownBy_alloc wr _ none)
        have x0 : w0.heap[n15]? = some (.cells #[.int .i64 kind, .int .i64 vk, .int .i64 vf, .int .i64 vs, .int .i64 vv, .int .i64 vd, .slice va vl.length vc, .slice xa xl.length xc] 33) := by rw [← hw0, ← hn15]; exact heap_alloc_new wr _
        rw [hw0, hn15]
        have hC1 := hC.ext e0
        clear hC hw0 hn15 hrg2
        obtain ⟨c1, hc1⟩ : ∃ c1, s.count s.prepares = c1 := ⟨_, rfl⟩
        obtain ⟨c2, hc2⟩ : ∃ c2, s.count s.commits = c2 := ⟨_, rfl⟩
        go_cut [16, 17, 18, 57] from 57 to 172 (fun v16 v17 v18 v57 wc => v57 = .int .i64 i ∧ v16 = .string (strOf s.bytes) ∧ v18 = .bool s.decided ∧ Ext w0 wc ∧ ∃ g, v17 = .pointer (some ⟨g, 0, none⟩) ∧ wc.heap[g]? = some (.cells #[.int .i64 s.view, .int .i64 c1, .int .i64 c2] 35))
        case first =>
          obtain ⟨g, hg⟩ : ∃ g, w0.heap.size = g := ⟨_, rfl⟩
          refine wp_region_treeG g (by kernel_rfl) (.two [0, 3, 5] 1 (.two [2] 4 (.one [] 6 (.one [7] 8 (.fin [9] []))) 6 (.one [] 4 (.one [7] 8 (.fin [9] [])))) 6 (.one [] 1 (.one [2] 4 (.one [7] 8 (.fin [9] []))))) [] (by decide +kernel) (fun c a d u w h => by cases d <;> exact h) ?_
          simp only [pickO, nthO, wpTreeG]
          repeat (go_big_quiet_step (fail))
          refine wpQuiet_nil ⟨?_, ?_⟩
          · refine live_stepG rfl (fun K hK => ?_)
            go_simp
            have hCd := hC1.ext (Ext.drew w0)
            refine (hCd.bytes_of ok).mono ?_
            rintro e w1 ⟨v1, rfl, hO1, hE1, hbk⟩
            obtain ⟨a1, k1, rfl, hb1, ho1⟩ := hO1.parts
            refine hK _ w1 w1 (ExtG.of_ext hE1) (ExtG.refl _) ?_
            clear hK K
            have hcv : ∀ x, (convert 29 9 (.slice a1 s.bytes.length k1)).run Try.prog (laterG g w1 x) = .ok (.string (strOf s.bytes)) (laterG g w1 x) := fun x =>
              run_string_of_bytes (P := Try.prog) k1 Try.underlying29 Try.underlying5 Try.underlying9 (hb1.laterG (fun p hp => by have := hbk _ (ho1 p hp); have hd : w0.drew.heap.size = w0.heap.size := rfl; omega)).bs
            repeat (go_big_quiet_step (fail))
            refine wpQuiet_nil ⟨?_, ?_⟩
            · clear hcv
              refine live_stepG rfl (fun K hK => ?_)
              go_simp
              refine ((hCd.ext hE1).grown_of ok).mono ?_
              rintro e w2 ⟨rfl, hE2⟩
              rw [hc1, hc2]
              refine hK _ w2 w2 (ExtG.of_ext hE2) (ExtG.refl _) ?_
              clear hK K
              refine wpQuiet_nil ?_
              refine live_stepG rfl (fun K hK => ?_)
              go_simp
              obtain ⟨w3, hw3⟩ : ∃ w3, w2.alloc (.cells #[.int .i64 0, .int .i64 0, .int .i64 0] 35) = w3 := ⟨_, rfl⟩
              obtain ⟨g17, hg17⟩ : ∃ g17, w2.heap.size = g17 := ⟨_, rfl⟩
              have e3 : Ext w2 w3 := by rw [← hw3]; exact ext_of_grown (World.grownBy_alloc w2 _ none)
              have x3 : w3.heap[g17]? = some (.cells #[.int .i64 0, .int .i64 0, .int .i64 0] 35) := by rw [← hw3, ← hg17]; exact heap_alloc_new w2 _
              rw [hw3, hg17]
              refine hK _ w3 w2 (ExtG.refl _) (ExtG.of_ext e3) ?_
              clear hK K hw3
              have hs2 := ((Ext.drew w0).trans hE1).trans hE2
              have hsz := hs2.size
              have f0 := frozen_ofBlk (i := 0) x3
              have f1 := frozen_ofBlk (i := 1) x3
              have f2 := frozen_ofBlk (i := 2) x3
              have q0 := cell_ofBlk (i := 0) (v := .int .i64 0) x3 rfl
              have q1 := cell_ofBlk (i := 1) (v := .int .i64 0) x3 rfl
              have q2 := cell_ofBlk (i := 2) (v := .int .i64 0) x3 rfl
              repeat (go_big_quiet_step (fail))
              refine wpQuiet_nil ?_
              refine live_stepG rfl (fun K hK => ?_)
              go_simp
              have xs := set3_heap (a := .int .i64 s.view) (b := .int .i64 c1) (c := .int .i64 c2) x3
              have ts := set3_turn (w := w3) (g := g17) (a := .int .i64 s.view) (b := .int .i64 c1) (c := .int .i64 c2)
              obtain ⟨wS, hwS⟩ : ∃ wS, set3 w3 g17 (.int .i64 s.view) (.int .i64 c1) (.int .i64 c2) = wS := ⟨_, rfl⟩
              rw [hwS] at xs ts
              rw [show (((w3).setCell ⟨g17, 0, none⟩ (.int .i64 s.view)).setCell ⟨g17, 1, none⟩ (.int .i64 c1)).setCell ⟨g17, 2, none⟩ (.int .i64 c2) = wS from hwS]
              refine hK _ wS w2 (ExtG.refl _) (ExtG.of_ext (Ext.turned e3 ts (fun k hk => by simp only [List.mem_singleton] at hk; omega))) ?_
              clear hK K hwS q0 q1 q2 f0 f1 f2
              repeat (go_big_quiet_step (fail))
              refine wpQuiet_nil ?_
              refine wpList_nil ?_
              go_wp2_with fail
              go_meet
              case rel => exact ⟨rfl, rfl, rfl, (hs2.trans e3).turned ts (fun k hk => by simp only [List.mem_singleton] at hk; omega), g17, rfl, xs⟩
            · clear hcv
              refine live_stepG rfl (fun K hK => ?_)
              go_simp
              obtain ⟨w3, hw3⟩ : ∃ w3, w1.alloc (.cells #[.int .i64 0, .int .i64 0, .int .i64 0] 35) = w3 := ⟨_, rfl⟩
              obtain ⟨g17, hg17⟩ : ∃ g17, w1.heap.size = g17 := ⟨_, rfl⟩
              have e3 : Ext w1 w3 := by rw [← hw3]; exact ext_of_grown (World.grownBy_alloc w1 _ none)
              have x3 : w3.heap[g17]? = some (.cells #[.int .i64 0, .int .i64 0, .int .i64 0] 35) := by rw [← hw3, ← hg17]; exact heap_alloc_new w1 _
              rw [hw3, hg17]
              refine hK _ w3 w1 (ExtG.refl _) (ExtG.of_ext e3) ?_
              clear hK K hw3
              refine wpQuiet_nil ?_
              refine live_stepG rfl (fun K hK => ?_)
              go_simp
              refine (((hCd.ext hE1).ext e3).grown_of ok).mono ?_
              rintro e w2 ⟨rfl, hE2⟩
              rw [hc1, hc2]
              refine hK _ w2 w1 (ExtG.refl _) (ExtG.of_ext (e3.trans hE2)) ?_
              clear hK K
              have x4 := hE2.heap x3
              have hs1 := (Ext.drew w0).trans hE1
              have hsz := hs1.size
              have f0 := frozen_ofBlk (i := 0) x4
              have f1 := frozen_ofBlk (i := 1) x4
              have f2 := frozen_ofBlk (i := 2) x4
              have q0 := cell_ofBlk (i := 0) (v := .int .i64 0) x4 rfl
              have q1 := cell_ofBlk (i := 1) (v := .int .i64 0) x4 rfl
              have q2 := cell_ofBlk (i := 2) (v := .int .i64 0) x4 rfl
              repeat (go_big_quiet_step (fail))
              refine wpQuiet_nil ?_
              refine live_stepG rfl (fun K hK => ?_)
              go_simp
              have xs := set3_heap (a := .int .i64 s.view) (b := .int .i64 c1) (c := .int .i64 c2) x4
              have ts := set3_turn (w := w2) (g := g17) (a := .int .i64 s.view) (b := .int .i64 c1) (c := .int .i64 c2)
              obtain ⟨wS, hwS⟩ : ∃ wS, set3 w2 g17 (.int .i64 s.view) (.int .i64 c1) (.int .i64 c2) = wS := ⟨_, rfl⟩
              rw [hwS] at xs ts
              rw [show (((w2).setCell ⟨g17, 0, none⟩ (.int .i64 s.view)).setCell ⟨g17, 1, none⟩ (.int .i64 c1)).setCell ⟨g17, 2, none⟩ (.int .i64 c2) = wS from hwS]
              refine hK _ wS w1 (ExtG.refl _) (ExtG.of_ext (Ext.turned (e3.trans hE2) ts (fun k hk => by simp only [List.mem_singleton] at hk; omega))) ?_
              clear hK K hwS q0 q1 q2 f0 f1 f2
              repeat (go_big_quiet_step (fail))
              refine wpQuiet_nil ?_
              refine wpList_nil ?_
              go_wp2_with fail
              go_meet
              case rel => exact ⟨rfl, rfl, rfl, (hs1.trans (e3.trans hE2)).turned ts (fun k hk => by simp only [List.mem_singleton] at hk; omega), g17, rfl, xs⟩
          · refine live_stepG rfl (fun K hK => ?_)
            go_simp
            obtain ⟨w3, hw3⟩ : ∃ w3, (w0.alloc (.cells #[.int .i64 0, .int .i64 0, .int .i64 0] 35)).drew = w3 := ⟨_, rfl⟩
            have e3 : Ext w0.drew w3 := by rw [← hw3]; exact ext_of_grown (World.grownBy_alloc w0.drew _ none)
            have x3 : w3.heap[g]? = some (.cells #[.int .i64 0, .int .i64 0, .int .i64 0] 35) := by rw [← hw3, ← hg]; exact heap_alloc_new w0 _
            have hs3 : w3.heap.size = g + 1 := by rw [← hw3, ← hg]; simp [World.drew]
            rw [hw3]
            refine hK _ w3 w0.drew (ExtG.refl _) (ExtG.of_ext e3) ?_
            clear hK K hw3
            have hCd := (hC1.ext (Ext.drew w0)).ext e3
            refine wpQuiet_nil ?_
            refine live_stepG rfl (fun K hK => ?_)
            go_simp
            refine (hCd.bytes_of ok).mono ?_
            rintro e w1 ⟨v1, rfl, hO1, hE1, hbk⟩
            obtain ⟨a1, k1, rfl, hb1, ho1⟩ := hO1.parts
            refine hK _ w1 w1 (ExtG.of_ext (e3.trans hE1)) (ExtG.refl _) ?_
            clear hK K
            have hcv : ∀ x, (convert 29 9 (.slice a1 s.bytes.length k1)).run Try.prog (laterG g w1 x) = .ok (.string (strOf s.bytes)) (laterG g w1 x) := fun x =>
              run_string_of_bytes (P := Try.prog) k1 Try.underlying29 Try.underlying5 Try.underlying9 (hb1.laterG (fun p hp => by have := hbk _ (ho1 p hp); omega)).bs
            repeat (go_big_quiet_step (fail))
            refine wpQuiet_nil ?_
            clear hcv
            refine live_stepG rfl (fun K hK => ?_)
            go_simp
            refine ((hCd.ext hE1).grown_of ok).mono ?_
            rintro e w2 ⟨rfl, hE2⟩
            rw [hc1, hc2]
            refine hK _ w2 w2 (ExtG.of_ext hE2) (ExtG.refl _) ?_
            clear hK K
            have x4 := hE2.heap (hE1.heap x3)
            have f0 := frozen_ofBlk (i := 0) x4
            have f1 := frozen_ofBlk (i := 1) x4
            have f2 := frozen_ofBlk (i := 2) x4
            have q0 := cell_ofBlk (i := 0) (v := .int .i64 0) x4 rfl
            have q1 := cell_ofBlk (i := 1) (v := .int .i64 0) x4 rfl
            have q2 := cell_ofBlk (i := 2) (v := .int .i64 0) x4 rfl
            repeat (go_big_quiet_step (fail))
            refine wpQuiet_nil ?_
            refine live_stepG rfl (fun K hK => ?_)
            go_simp
            have xs := set3_heap (a := .int .i64 s.view) (b := .int .i64 c1) (c := .int .i64 c2) x4
            have ts := set3_turn (w := w2) (g := g) (a := .int .i64 s.view) (b := .int .i64 c1) (c := .int .i64 c2)
            obtain ⟨wS, hwS⟩ : ∃ wS, set3 w2 g (.int .i64 s.view) (.int .i64 c1) (.int .i64 c2) = wS := ⟨_, rfl⟩
            rw [hwS] at xs ts
            rw [show (((w2).setCell ⟨g, 0, none⟩ (.int .i64 s.view)).setCell ⟨g, 1, none⟩ (.int .i64 c1)).setCell ⟨g, 2, none⟩ (.int .i64 c2) = wS from hwS]
            refine hK _ wS w2 (ExtG.refl _) (ExtG.of_turn ts) ?_
            clear hK K hwS q0 q1 q2 f0 f1 f2
            repeat (go_big_quiet_step (fail))
            refine wpQuiet_nil ?_
            refine wpList_nil ?_
            go_wp2_with fail
            go_meet
            case rel => exact ⟨rfl, rfl, rfl, (((Ext.drew w0).trans e3).trans (hE1.trans hE2)).turned ts (fun k hk => by simp only [List.mem_singleton] at hk; omega), g, rfl, xs⟩
        case rest =>
          obtain ⟨rfl, rfl, rfl, e5, g, rfl, xg⟩ := hcut
          have x5 := e5.heap x0
          have hE5 := (hE.trans e0).trans e5
          have hC5 := hC1.ext e5
          have hya5 := hya.ext (e0.trans e5)
          clear hya x0 e5 e0 hC1 hE
          have d0 := cell_ofBlk (i := 0) (v := .int .i64 kind) x5 rfl
          have d1 := cell_ofBlk (i := 1) (v := .int .i64 vk) x5 rfl
          have d2 := cell_ofBlk (i := 2) (v := .int .i64 vf) x5 rfl
          have d3 := cell_ofBlk (i := 3) (v := .int .i64 vs) x5 rfl
          have d4 := cell_ofBlk (i := 4) (v := .int .i64 vv) x5 rfl
          have d5 := cell_ofBlk (i := 5) (v := .int .i64 vd) x5 rfl
          have d6 := cell_ofBlk (i := 6) (v := .slice va vl.length vc) x5 rfl
          have d7 := cell_ofBlk (i := 7) (v := .slice xa xl.length xc) x5 rfl
          go_upto_block 2 with fail
          go_cut [57] from 57 to 172 (fun v57 wd => v57 = .int .i64 i ∧ ∃ u fp', CoreAt 15 wd b fp' u ∧ u.Ok ∧ Own u ∧ Came s u ∧ (∀ k ∈ fp', K0 ≤ k) ∧ Ext w wd ∧ wd.heap[g]? = some (.cells #[.int .i64 s.view, .int .i64 c1, .int .i64 c2] 35))
          case first =>
            have fin : ∀ (o : Option St) (wd : World), (∀ t, o = some t → Came s t ∧ Own t) → HeedPost 15 okNot b fp s o wc wd → ∃ u fp', CoreAt 15 wd b fp' u ∧ u.Ok ∧ Own u ∧ Came s u ∧ (∀ k ∈ fp', K0 ≤ k) ∧ Ext w wd ∧ wd.heap[g]? = some (.cells #[.int .i64 s.view, .int .i64 c1, .int .i64 c2] 35) := by
              rintro o wd ho ⟨u, oku, hh, fp', hCu, hT, hnew⟩
              obtain ⟨h1, h2⟩ := came_heeds own ho hh
              refine ⟨u, fp', hCu, oku, h2, h1, fun k hk => ?_, hE5.turned hT (fun k hk => by have := hlow k hk; omega), hT.cells hC5.kinds xg (by decide)⟩
              rcases hnew k hk with h3 | h3
              · exact hlow k h3
              · have := hE5.size; omega
            by_cases k0 : kind = 0
            · subst k0
              go_wp2_with (go_at_call 18; refine (hC5.take_of ok accepts_not ⟨vk, vf, vs, vv, vd, vl⟩ (hya5.fits (by omega)) va vc hya5.vote).mono ?_; rintro e w6 hpost; obtain ⟨rfl, hheed⟩ := hpost.heed hC5 ok; clear hpost)
              go_meet
              case rel => exact ⟨rfl, fin _ _ (fun t ht => came_hear ht own) hheed⟩
            · have b0 : (kind == 0) = false := by simpa using k0
              by_cases k1 : kind = 1
              · subst k1
                clear b0
                go_wp2_with (go_at_call 19; refine (hC5.wish_of ok accepts_not xa xl.length xc xl rfl hya5.value (by omega)).mono ?_; rintro e w6 hpost; obtain ⟨rfl, hheed⟩ := hpost.heed hC5 ok; clear hpost)
                go_meet
                case rel => exact ⟨rfl, fin _ _ (fun t ht => came_wished ht own) hheed⟩
              · have b1 : (kind == 1) = false := by simpa using k1
                by_cases k2 : kind = 2
                · subst k2
                  clear b0 b1
                  go_wp2_with (go_at_call 20; refine (hC5.late_of ok accepts_not).mono ?_; rintro e w6 hpost; obtain ⟨rfl, hheed⟩ := hpost.heed hC5 ok; clear hpost)
                  go_meet
                  case rel => exact ⟨rfl, fin _ _ (fun t ht => came_late ht own) hheed⟩
                · have b2 : (kind == 2) = false := by simpa using k2
                  go_wp2_with fail
                  go_meet
                  case rel => exact ⟨rfl, fin none _ (fun t ht => by cases ht) ⟨s, ok, rfl, CorePost.ext hC5 (Ext.refl _)⟩⟩
          case rest =>
            obtain ⟨rfl, u, fp', hCu, oku, ownu, hcame, hlowu, hEd, xgd⟩ := hcut
            clear hlow hC5 hE5 xg x5 hya5 d0 d1 d2 d3 d4 d5 d6 d7
            go_upto_region 22 with fail
            go_cut [19, 20, 57] from 57 to 172 (fun v19 v20 v57 we => v57 = .int .i64 i ∧ v20 = .bool u.decided ∧ Ext wc we ∧ ∃ a' c', v19 = .slice a' (decV u).length c' ∧ BB we a' (decV u))
            case first =>
              go_wp2_with (go_at_call 21; refine (hCu.decided_of oku).mono ?_; rintro e w6 ⟨hE6, hpost⟩; obtain ⟨a', c', he', hb'⟩ := decided_parts hpost; rw [he'])
              go_meet
              case rel => exact ⟨rfl, rfl, hE6, a', c', rfl, hb'⟩
            case rest =>
              obtain ⟨rfl, rfl, e6, a6, k6, rfl, hb6⟩ := hcut
              have hC6 := hCu.ext e6
              have xg6 := e6.heap xgd
              have hE6 := hEd.trans e6
              clear hCu xgd hEd e6
              have hge : decide (u.view < s.view) = false := decide_eq_false (by have := hcame.view; omega)
              go_upto_region 23 with fail
              obtain ⟨ds, hds⟩ : ∃ ds, s.decided = ds := ⟨_, rfl⟩
              obtain ⟨du, hdu⟩ : ∃ du, u.decided = du := ⟨_, rfl⟩
              obtain ⟨sv, hsv⟩ : ∃ sv, decStr s = sv := ⟨_, rfl⟩
              rw [hds, hdu, hsv]
              have hdd : ds = true → du = true ∧ strOf (decV u) = sv := fun hd => by
                rw [hd] at hds
                obtain ⟨h1, h2⟩ := hcame.decided hds
                refine ⟨hdu.symm.trans h1, ?_⟩
                rw [← hsv]
                unfold decStr decV
                rw [h1, hds, if_pos rfl, if_pos rfl, h2]
              go_cut [57, 106] from 57 to 172 (fun v57 v106 wf => v57 = .int .i64 i ∧ v106 = .bool false ∧ wf = wc)
              case first =>
                clear hds hdu hsv
                cases ds with
                | false =>
                  clear hdd
                  go_wp2_with (go_at_call 22; refine (hC6.view_of).mono ?_; rintro e w7 ⟨rfl, rfl⟩)
                  go_meet
                  case rel => exact ⟨rfl, rfl, rfl⟩
                | true =>
                  obtain ⟨rfl, hvv⟩ := hdd rfl
                  have hcv : (convert 29 9 (.slice a6 (decV u).length k6)).run Try.prog wc = .ok (.string sv) wc := by rw [← hvv]; exact run_string_of_bytes (P := Try.prog) k6 Try.underlying29 Try.underlying5 Try.underlying9 hb6.bs
                  clear hvv hdd
                  go_wp2_with (go_at_call 22; refine (hC6.view_of).mono ?_; rintro e w7 ⟨rfl, rfl⟩)
                  go_meet
                  case rel => exact ⟨rfl, rfl, rfl⟩
              case rest =>
                obtain ⟨rfl, rfl, hwf⟩ := hcut
                subst hwf
                clear hge hdd
                go_upto_region 25 with fail
                go_cut [10, 11, 12, 57] from 57 to 172 (fun v10 v11 v12 v57 wg => v57 = .int .i64 i ∧ v10 = .int .i64 u.view ∧ v11 = .string (decStr u) ∧ v12 = .bool du ∧ Ext wc wg)
                case first =>
                  have hcv : ∀ x, (convert 29 9 (.slice a6 (decV u).length k6)).run Try.prog (later wc x) = .ok (.string (strOf (decV u))) (later wc x) := fun x =>
                    run_string_of_bytes (P := Try.prog) k6 Try.underlying29 Try.underlying5 Try.underlying9 (hb6.ext ⟨x, rfl⟩).bs
                  clear hds hdu hsv
                  refine wp_region_segs (by kernel_rfl) [([0, 2, 3, 4], 1)] [5, 6, 7] [] (by decide +kernel) (fun c a d u w h => by cases d <;> exact h) ?_
                  simp only [pickO, pickS, nthO, wpSegs]
                  repeat (go_big_quiet_step (fail))
                  refine wpQuiet_nil ?_
                  refine live_step rfl (fun K hK => ?_)
                  go_simp
                  refine ((hC6.ext (Ext.drew wc)).view_of).mono ?_
                  rintro e w7 ⟨rfl, hw7⟩
                  subst hw7
                  refine hK _ _ _ (Ext.refl _) (Ext.refl _) ?_
                  clear hK K
                  repeat (go_big_quiet_step (fail))
                  refine wpQuiet_nil ?_
                  refine wpList_nil ?_
                  go_wp2_with fail
                  go_meet
                  case rel => exact ⟨rfl, rfl, rfl, rfl, Ext.drew _⟩
                case rest =>
                  obtain ⟨rfl, rfl, rfl, rfl, e7⟩ := hcut
                  have hC7 := hC6.ext e7
                  have xg7 := e7.heap xg6
                  have hE7 := hE6.trans e7
                  clear hC6 xg6 hE6 e7 hb6 hsv
                  go_upto_region 26 with fail
                  obtain ⟨d1, hd1⟩ : ∃ d1, u.count u.prepares = d1 := ⟨_, rfl⟩
                  obtain ⟨d2, hd2⟩ : ∃ d2, u.count u.commits = d2 := ⟨_, rfl⟩
                  obtain ⟨bs, hbs⟩ : ∃ bs, s.bytes = bs := ⟨_, rfl⟩
                  rw [hbs]
                  have hsame : u.view = s.view → d1 = c1 → d2 = c2 → du = ds → u.bytes = bs := fun h1 h2 h3 h4 => by
                    rw [← hbs]
                    exact bytes_same ok oku hcame h1 (by rw [hd1, hc1]; exact h2) (by rw [hd2, hc2]; exact h3) (by rw [hdu, hds]; exact h4)
                  go_cut [57, 140] from 57 to 172 (fun v57 v140 wh => v57 = .int .i64 i ∧ v140 = .bool false ∧ Ext wc wh)
                  case first =>
                    clear hds hdu hc1 hc2 hbs
                    have i35 := run_index35
                    obtain ⟨eb, heb⟩ : ∃ eb, (u.view == s.view && (d1 == c1 && d2 == c2)) = eb := ⟨_, rfl⟩
                    have h35a : ∀ w : World, (Op.equalIn 10000 35 (.agg #[.int .i64 0, .int .i64 0, .int .i64 0]) (.agg #[.int .i64 0, .int .i64 0, .int .i64 0])).run Try.prog w = .ok true w := fun w => run_eq35 w 0 0 0 0 0 0
                    have h35b : ∀ w : World, (Op.equalIn 10000 35 (.agg #[.int .i64 u.view, .int .i64 d1, .int .i64 d2]) (.agg #[.int .i64 s.view, .int .i64 c1, .int .i64 c2])).run Try.prog w = .ok eb w := fun w => by rw [← heb]; exact run_eq35 w _ _ _ _ _ _
                    have hsame2 : eb = true → du = ds → u.bytes = bs := fun h1 h2 => by
                      rw [h1] at heb
                      simp only [Bool.and_eq_true, beq_iff_eq] at heb
                      exact hsame heb.1 heb.2.1 heb.2.2 h2
                    clear heb hsame
                    have k0 := Ext.ofBlk (i := 0) (v := .int .i64 s.view) xg7 rfl
                    have k1 := Ext.ofBlk (i := 1) (v := .int .i64 c1) xg7 rfl
                    have k2 := Ext.ofBlk (i := 2) (v := .int .i64 c2) xg7 rfl
                    refine wp_region_segs (by kernel_rfl) [([0, 2], 1), ([3, 4, 5, 8], 6), ([7, 9, 10, 11, 12, 14], 13), ([15, 16, 17, 18, 19, 20, 21, 22, 25], 23)] [24, 26, 27, 28] [] (by decide +kernel) (fun c a d u w h => by cases d <;> exact h) ?_
                    simp only [pickO, pickS, nthO, wpSegs]
                    repeat (go_big_quiet_step (fail))
                    refine wpQuiet_nil ?_
                    refine live_step rfl (fun K hK => ?_)
                    go_simp
                    refine (grown_nil _).mono ?_
                    rintro e w7 ⟨rfl, hE8⟩
                    have hE8' := (Ext.drew wc).trans hE8
                    refine hK _ w7 w7 hE8 (Ext.refl _) ?_
                    clear hK K
                    repeat (go_big_quiet_step (fail))
                    refine wpQuiet_nil ?_
                    refine live_step rfl (fun K hK => ?_)
                    go_simp
                    refine ((hC7.ext hE8').grown_of oku).mono ?_
                    rintro e w8 ⟨rfl, hE9⟩
                    rw [hd1, hd2]
                    have hE9' := hE8'.trans hE9
                    refine hK _ w8 w8 hE9 (Ext.refl _) ?_
                    clear hK K
                    have k0 := Ext.ofBlk (i := 0) (v := .int .i64 s.view) (hE9'.heap xg7) rfl
                    have k1 := Ext.ofBlk (i := 1) (v := .int .i64 c1) (hE9'.heap xg7) rfl
                    have k2 := Ext.ofBlk (i := 2) (v := .int .i64 c2) (hE9'.heap xg7) rfl
                    repeat (go_big_quiet_step (fail))
                    refine wpQuiet_nil ?_
                    refine live_step rfl (fun K hK => ?_)
                    go_simp
                    refine ((hC7.ext hE9').grown_of oku).mono ?_
                    rintro e w9 ⟨rfl, hE10⟩
                    rw [hd1, hd2]
                    have hE10' := hE9'.trans hE10
                    have k0 := Ext.ofBlk (i := 0) (v := .int .i64 s.view) (hE10'.heap xg7) rfl
                    have k1 := Ext.ofBlk (i := 1) (v := .int .i64 c1) (hE10'.heap xg7) rfl
                    have k2 := Ext.ofBlk (i := 2) (v := .int .i64 c2) (hE10'.heap xg7) rfl
                    refine hK _ w9 w9 hE10 (Ext.refl _) ?_
                    clear hK K
                    cases eb with
                    | false =>
                      clear hsame2
                      repeat (go_big_quiet_step (fail))
                      refine wpQuiet_nil ?_
                      refine live_skip rfl ?_
                      go_simp
                      repeat (go_big_quiet_step (fail))
                      refine wpQuiet_nil ?_
                      refine wpList_nil ?_
                      go_wp2_with fail
                      go_meet
                      case rel => exact ⟨rfl, rfl, hE10'⟩
                    | true =>
                      by_cases hq : du = ds
                      · have hbq := hsame2 rfl hq
                        subst hq
                        repeat (go_big_quiet_step (fail))
                        refine wpQuiet_nil ?_
                        refine live_step rfl (fun K hK => ?_)
                        go_simp
                        refine ((hC7.ext hE10').bytes_of oku).mono ?_
                        rintro e w10 ⟨v10, rfl, hO10, hE11, _⟩
                        rw [hbq] at hO10
                        obtain ⟨a10, k10, rfl, hb10, _⟩ := hO10.parts
                        have hcv : ∀ x, (convert 29 9 (.slice a10 bs.length k10)).run Try.prog (later w10 x) = .ok (.string (strOf bs)) (later w10 x) := fun x =>
                          run_string_of_bytes (P := Try.prog) k10 Try.underlying29 Try.underlying5 Try.underlying9 (hb10.ext ⟨x, rfl⟩).bs
                        refine hK _ w10 w10 hE11 (Ext.refl _) ?_
                        clear hK K hbq hsame2
                        repeat (go_big_quiet_step (fail))
                        refine wpQuiet_nil ?_
                        refine wpList_nil ?_
                        go_wp2_with fail
                        go_meet
                        case rel => exact ⟨rfl, rfl, hE10'.trans hE11⟩
                      · clear hsame2
                        have hqb : (du == ds) = false := by simpa using hq
                        repeat (go_big_quiet_step (fail))
                        refine wpQuiet_nil ?_
                        refine live_skip rfl ?_
                        go_simp
                        repeat (go_big_quiet_step (fail))
                        refine wpQuiet_nil ?_
                        refine wpList_nil ?_
                        go_wp2_with fail
                        go_meet
                        case rel => exact ⟨rfl, rfl, hE10'⟩
                  case rest =>
                    obtain ⟨rfl, rfl, e8⟩ := hcut
                    have hC8 := hC7.ext e8
                    have hE8 := hE7.trans e8
                    clear hC7 hE7 e8 xg7 hsame
                    have hmeu : u.me = M := hcame.me.trans hme
                    have hslu : u.slot = S := hcame.slot.trans hsl
                    have hsn := says_length oku
                    have hsr : ∀ v ∈ u.says, v.ofCore u ∧ v.fits := fun v hv => ⟨says_right oku ownu hv, (says_fits oku hv).1⟩
                    go_wp2_with (go_at_call 23; refine (hC8.says_of oku).mono ?_; rintro e w9 ⟨val, L, rfl, hL, hLs, hE9⟩; obtain ⟨aL, kL, rfl⟩ := hL.form)
                    have hLn : L.length ≤ 2097160 := by have := congrArg List.length hLs; rw [List.length_map] at this; omega
                    have hLr : ∀ x ∈ L, x.v.ofCore u ∧ x.v.fits := fun x hx => hsr _ (by rw [← hLs]; exact List.mem_map_of_mem hx)
                    have hC9 := hC8.ext hE9
                    have hE9' := hE8.trans hE9
                    clear hC8 hE8 hLs hsr hsn
                    obtain ⟨B9, hB9⟩ : ∃ B9, wc.heap.size = B9 := ⟨_, rfl⟩
                    rw [hB9] at hL
                    clear hB9
                    go_loopw [144] (fun v144 wr => ∃ (k : Nat), v144 = .int .i64 k ∧ k ≤ L.length ∧ Ext w9 wr) (fun v _ => L.length - (intOf v).toNat)
                    case atStart => exact ⟨0, rfl, by omega, Ext.refl _⟩
                    case round =>
                      obtain ⟨k, rfl, hk, hEk⟩ := hrel
                      have hLk := hL.ext hEk
                      by_cases hlk : k < L.length
                      · obtain ⟨x, hx⟩ : ∃ x, L[k]? = some x := ⟨_, List.getElem?_eq_getElem hlk⟩
                        obtain ⟨gL, rfl, _, hrg⟩ := hLk.at hx
                        obtain ⟨⟨x1, x2, x3, x4⟩, hxf⟩ := hLr x (List.mem_of_getElem? hx)
                        have hxb := hLk.vals x (List.mem_of_getElem? hx)
                        obtain ⟨⟨vk, vf, vs, vv, vd, vl⟩, va, vc⟩ := x
                        simp only at x1 x2 x3
                        obtain rfl : vf = M := x1.trans hmeu
                        obtain rfl : vs = S := x2.trans hslu
                        have hvv : decide (u.view < vv) = false := decide_eq_false (by omega)
                        clear x1 x2 x3
                        have hrg2 : wr.rangeAt gL (k * 6) [.int .i64 vk, .int .i64 vf, .int .i64 vs, .int .i64 vv, .int .i64 vd, .slice va vl.length vc] := hrg
                        clear hrg
                        go_wp2_with (first
                          | (refine wpList_load_mid rfl 31 (.tmp 146) rfl gL (k * 6) rfl _ _ hrg2 Try.underlying31 rfl (by kernel_rfl) ?_)
                          | (go_at_call 24; refine (encode_any ⟨vk, vf, vs, vv, vd, vl⟩ va vc _ hxf (hxb.ext (ext_of_grown (World.grownBy_alloc wr _ none))).bs).mono ?_; rintro e w10 ⟨hE10, xe, rfl⟩; rw [x4, if_pos rfl]))
                        go_roundw
                        case rel => exact ⟨k + 1, by simp, by omega, hEk.trans ((ext_of_grown (World.grownBy_alloc wr _ none)).trans hE10)⟩
                        case measure => simp only [intOf]; omega
                      · go_wp2_with fail
                        go_roundw
                        case rel => exact ⟨i + 1, u, fp', by simp, by omega, rfl, rfl, by rw [hdu], hC9.ext hEk, oku, ownu, hmeu, hslu, hlowu, hE9'.trans hEk⟩
                        case measure => simp only [intOf]; omega
      · go_wp2_with fail
        go_ret
        exact ⟨rfl, hE⟩
end Go.Proofs.Ytiofkiaibcmdhaa
