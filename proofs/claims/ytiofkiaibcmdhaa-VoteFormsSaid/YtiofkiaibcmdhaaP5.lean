import Derived.Test.YtiofkiaibcmdhaaP4
import Derived.Test.YtiofkiaibcmdhaaSeg2
namespace Go.Proofs.Ytiofkiaibcmdhaa
open Go Go.RowKit

def chosenF (s : St) (view : Int) : Option Bytes := maj ((getV s.commits view).getD []) (quorum s.n)
theorem chosen_eq (s : St) : s.chosen = (isort (s.commits.map (·.1))).findSome? (chosenF s) := rfl

/-- What 'decide' leaves. -/
def DecidePost (fa b : Nat) (fp : List Nat) (s : St) (o : Option St) (w : World) (e : Ending) (w' : World) : Prop :=
  match o with
  | some t => e = .returned (.bool true) ∧ CorePost fa b fp t w w'
  | none => e = .returned (.bool false) ∧ CorePost fa b fp s.rest w w'

section
variable {fa : Nat} {w : World} {b : Nat} {p : Ptr} {F1 F2 F3 : List Nat} {s : St} {okf : Bytes → Bool}

set_option maxRecDepth 100000 in
set_option maxHeartbeats 1000000 in
theorem CoreIn.decide_step (h : CoreIn fa w b p F1 F2 F3 s) (ok : s.Ok) :
    Calls Try.prog 92 #[.pointer (some ⟨b, 0, none⟩)] w (DecidePost fa b (foot b p F1 F2 F3) s s.decide' w) := by
  have d9 := cell_ofBlk (i := 9) (v := .map (some p.mc)) h.blk rfl
  obtain ⟨o, ho⟩ : ∃ o, s.decide' = o := ⟨_, rfl⟩
  rw [ho]
  obtain ⟨es, hm, hR, hF⟩ := h.comms
  have hl := ok.comms.length
  have hlr : es.length ≤ 10000000 := by rw [hR.length]; omega
  go_enter Try.func92, Try.ntmps92
  go_wp2_with (first
    | (go_at_call 70; refine (keys_of _ _).mono ?_; rintro e w1 ⟨rfl, rfl⟩)
    | (go_at_call 69; refine (sorted95 p.mc es w hm hlr).mono ?_; rintro e ws ⟨a, c, rfl, hI, hE, _⟩))
  have hEs : Ext w ws := (ext_of_grown (World.grownBy_alloc w _ none)).trans hE
  go_loopw [14] (fun v wr => ∃ i : Nat, v = .int .i64 i ∧ Ext ws wr ∧ i ≤ es.length ∧ ((isort (es.map (·.1))).take i).findSome? (chosenF s) = none)
    (fun v _ => es.length - (match v with | .int _ n => n.toNat | _ => 0))
  case atStart => exact ⟨0, rfl, Ext.refl _, by omega, by simp⟩
  case round =>
    obtain ⟨i, rfl, hEr, hi, hnone⟩ := hrel
    have hlk : (isort (es.map (·.1))).length = es.length := by rw [(isort_perm _).length_eq]; simp
    have hEw := hEs.trans hEr
    have h2 := h.ext hEw
    by_cases hlt : i < es.length
    · obtain ⟨pp, rfl⟩ : ∃ p, a = some p := by
        cases a with
        | none => have h0 : isort (es.map (·.1)) = [] := hI; rw [h0] at hlk; simp at hlk; omega
        | some p => exact ⟨p, rfl⟩
      obtain ⟨pb, po, ps⟩ := pp
      obtain rfl : ps = none := hI.1
      obtain ⟨k, hk⟩ : ∃ k, (isort (es.map (·.1)))[i]? = some k := ⟨_, List.getElem?_eq_getElem (by omega)⟩
      have hcell := (hI.ext hEr).cell hk
      have hat := findSome_at (f := chosenF s) hk hnone
      have c0 := Ext.ofBlk (i := 0) (v := .int .i64 s.n) h2.blk rfl
      have c9 := Ext.ofBlk (i := 9) (v := .map (some p.mc)) h2.blk rfl
      obtain ⟨r, hlk2, hr⟩ := h2.comms.look k
      clear hnone hk hI hlk
      go_wp2_with fail
      refine wp_region_segs (by kernel_rfl) [([0, 1, 2, 3, 4, 5, 6, 7, 8, 9], 10), ([], 11)] [12, 13, 14, 15, 16] [] (by decide +kernel) (fun c a d u w h => by cases d <;> exact h) ?_
      simp only [pickO, pickS, nthO, wpSegs]
      repeat (go_big_quiet_step (fail))
      refine wpQuiet_nil ?_
      have hn := ok.n
      refine live_step rfl (fun K hK => ?_)
      go_simp
      refine (quorum_any s.n _ (by omega) (by omega)).mono ?_
      rintro e w3 ⟨rfl, rfl⟩
      refine hK _ _ _ (Ext.refl _) (Ext.refl _) ?_
      clear hK K
      refine wpQuiet_nil ?_
      refine live_step rfl (fun K hK => ?_)
      go_simp
      have hr' : (r = none ∧ getV s.commits k = none) ∨ ∃ q t, r = some q ∧ getV s.commits k = some t ∧ ToldAt wr.drew q t := by
        rcases hr with hr | ⟨q, t, h1, h2, h3⟩
        · exact .inl hr
        · exact .inr ⟨q, t, h1, h2, h3.ext (Ext.drew wr)⟩
      have cC := count_look hr' hn.2 ok.comms (s.n - (s.n - 1) / 3)
      obtain ⟨q, hq⟩ : ∃ q, chosenF s k = q := ⟨_, rfl⟩
      change Calls _ _ _ _ (CountPost (chosenF s k) wr.drew) at cC
      rw [hq] at cC hat
      refine cC.mono ?_
      rintro e w4 ⟨hE4, hC⟩
      have hE5 := (hEr.trans (Ext.drew wr)).trans hE4
      cases q with
      | none =>
        obtain rfl := hC
        refine hK _ w4 w4 hE4 (Ext.refl _) ?_
        clear hK K
        repeat (go_big_quiet_step (fail))
        refine wpQuiet_nil ?_
        refine wpList_nil ?_
        go_wp2_with fail
        go_roundw
        case rel => exact ⟨i + 1, by simp, hE5, by omega, hat.2 rfl⟩
        case measure => simp; omega
      | some v =>
        obtain ⟨av, cv, rfl, hbv⟩ := hC
        refine hK _ w4 w4 hE4 (Ext.refl _) ?_
        clear hK K
        repeat (go_big_quiet_step (fail))
        refine wpQuiet_nil ?_
        refine wpList_nil ?_
        have hE6 := hEs.trans hE5
        have h4 := h.ext hE6
        have f15 := frozen_ofBlk (i := 15) h4.blk
        have d15 := cell_ofBlk (i := 15) (v := .bool s.decided) h4.blk rfl
        have hq3 := heap_setCell_blk h4.blk 15 (.bool true)
        have d16 := cell_ofBlk (i := 16) (v := .slice p.av s.value.length p.cv) hq3 rfl
        have f16 := frozen_ofBlk (i := 16) hq3
        have hch : s.chosen = some v := by rw [chosen_eq, ← hR.keys]; exact hat.1 v rfl
        obtain rfl : o = some { s with decided := true, value := v } := by rw [← ho]; simp [St.decide', hch]
        obtain ⟨h5, hT5⟩ := h4.set2 (s' := { s with decided := true, value := v }) (p' := { p with av := av, cv := cv }) (i := 15) (j := 16) (u := .bool true) (v := .slice av v.length cv) rfl ⟨rfl, rfl, rfl, rfl, rfl, rfl⟩ ⟨rfl, rfl, rfl, rfl, rfl, rfl⟩ h4.wish h4.locked hbv
        clear hq3 c0 c9 hat ho
        go_wp2_with fail
        go_ret
        exact ⟨rfl, CorePost.trans (hE6.turn _) (fun _ hk => .inl hk) ⟨_, ⟨_, F1, F2, F3, rfl, h5⟩, hT5.mono (by simp [foot]), fun _ hk => .inl hk⟩⟩
    · have hch : s.chosen = none := by
        rw [chosen_eq, ← hR.keys]
        rw [List.take_of_length_le (by omega)] at hnone
        exact hnone
      have hoo : o = match maj s.deciders (few s.n + 1) with | some v => some { s with decided := true, value := v } | none => none := by rw [← ho]; simp only [St.decide', hch]; rfl
      have c0 := Ext.ofBlk (i := 0) (v := .int .i64 s.n) h2.blk rfl
      have c12 := Ext.ofBlk (i := 12) (v := .map (some p.md)) h2.blk rfl
      clear hnone hlk
      have hn := ok.n
      go_wp2_with fail
      refine wp_region_segs2 (by kernel_rfl) [([0, 2, 3, 4, 5, 6, 7, 8, 9, 10, 11, 12], [1], 13)] [14, 15, 17, 18] [16] [19, 20, 21, 22] (by decide +kernel) (fun c a d u w h => by cases d <;> exact h) ?_
      simp only [pickO, pickS2, nthO, wpSegs2]
      repeat (go_big_quiet_step (fail))
      refine wpQuiet_nil ?_
      repeat (go_big_quiet_step (fail))
      refine wpQuiet_nil ?_
      refine live_step rfl (fun K hK => ?_)
      go_simp
      have hld := ok.decs.length hn.2
      obtain ⟨q, hq⟩ : ∃ q, maj s.deciders (few s.n + 1) = q := ⟨_, rfl⟩
      have cC := count_some p.md s.deciders (few s.n + 1) wr.drew (h2.decs.ext (Ext.drew wr)) (by omega)
      rw [hq] at cC hoo
      refine cC.mono ?_
      rintro e w4 ⟨hE4, hC⟩
      have hE6 := (hEw.trans (Ext.drew wr)).trans hE4
      have h4 := h.ext hE6
      have f16 := frozen_ofBlk (i := 16) h4.blk
      have d16 := cell_ofBlk (i := 16) (v := .slice p.av s.value.length p.cv) h4.blk rfl
      cases q with
      | none =>
        obtain rfl := hC
        have hq3 := heap_setCell_blk h4.blk 16 (.slice none 0 0)
        have d15 := cell_ofBlk (i := 15) (v := .bool s.decided) hq3 rfl
        have f15 := frozen_ofBlk (i := 15) hq3
        refine hK _ w4 w4 hE4 (Ext.refl _) ?_
        clear hK K c0 c12 hq3
        repeat (go_big_quiet_step (fail))
        refine wpQuiet_nil ?_
        repeat (go_big_quiet_step (fail))
        refine wpQuiet_nil ?_
        simp only at hoo
        subst hoo
        obtain ⟨h5, hT5⟩ := h4.set2 (s' := s.rest) (p' := { p with av := none, cv := 0 }) (i := 16) (j := 15) (u := .slice none 0 0) (v := .bool false) rfl ⟨rfl, rfl, rfl, rfl, rfl, rfl⟩ ⟨rfl, rfl, rfl, rfl, rfl, rfl⟩ h4.wish h4.locked rfl
        have k15 := cell_ofBlk (i := 15) (v := .bool false) h5.blk rfl
        go_wp2_with fail
        go_ret
        exact ⟨rfl, CorePost.trans (hE6.turn _) (fun _ hk => .inl hk) ⟨_, ⟨_, F1, F2, F3, rfl, h5⟩, hT5.mono (by simp [foot]), fun _ hk => .inl hk⟩⟩
      | some v =>
        obtain ⟨av, cv, rfl, hbv⟩ := hC
        have hq3 := heap_setCell_blk h4.blk 16 (.slice av v.length cv)
        have d15 := cell_ofBlk (i := 15) (v := .bool s.decided) hq3 rfl
        have f15 := frozen_ofBlk (i := 15) hq3
        refine hK _ w4 w4 hE4 (Ext.refl _) ?_
        clear hK K c0 c12 hq3
        repeat (go_big_quiet_step (fail))
        refine wpQuiet_nil ?_
        repeat (go_big_quiet_step (fail))
        refine wpQuiet_nil ?_
        simp only at hoo
        subst hoo
        obtain ⟨h5, hT5⟩ := h4.set2 (s' := { s with decided := true, value := v }) (p' := { p with av := av, cv := cv }) (i := 16) (j := 15) (u := .slice av v.length cv) (v := .bool true) rfl ⟨rfl, rfl, rfl, rfl, rfl, rfl⟩ ⟨rfl, rfl, rfl, rfl, rfl, rfl⟩ h4.wish h4.locked hbv
        have k15 := cell_ofBlk (i := 15) (v := .bool true) h5.blk rfl
        go_wp2_with fail
        go_ret
        exact ⟨rfl, CorePost.trans (hE6.turn _) (fun _ hk => .inl hk) ⟨_, ⟨_, F1, F2, F3, rfl, h5⟩, hT5.mono (by simp [foot]), fun _ hk => .inl hk⟩⟩
end
end Go.Proofs.Ytiofkiaibcmdhaa
