import Derived.Test.YtiofkiaibcmdhaaA1
namespace Go.Proofs.Ytiofkiaibcmdhaa
open Go Go.RowKit
section
variable {fa : Nat} {w : World} {b : Nat} {p : Ptr} {F1 F2 F3 : List Nat} {s : St}

theorem frozen_ofBlk {w : World} {b i : Nat} {cs : Array Value} {t : TypeId} (h : w.heap[b]? = some (.cells cs t)) : w.frozen? ⟨b, i, none⟩ = false := by
  simp [World.frozen?, h]

/-- What a step hands back. -/
def StepPost (fa b : Nat) (fp : List Nat) (o : Option St) (w : World) (e : Ending) (w' : World) : Prop :=
  match o with
  | some t => e = .returned (.bool true) ∧ CorePost fa b fp t w w'
  | none => e = .returned (.bool false) ∧ Ext w w'

theorem IS.cell {w : World} {pb po : Nat} {l : List Int} (h : IS w (some ⟨pb, po, none⟩) l) {i : Nat} {x : Int} (hx : l[i]? = some x) : w.cell? ⟨pb, po + i, none⟩ = some (.int .i64 x) := by
  obtain ⟨_, cs, e, fz, hc, hi⟩ := h
  have hlt : i < l.length := (List.getElem?_eq_some_iff.1 hx).1
  have := hi i hlt
  rw [List.getElem?_eq_getElem hlt, Option.some.injEq] at hx
  rw [hx] at this
  simp only at hc this
  unfold World.cell?
  simp [hc, this]

set_option maxRecDepth 100000 in
set_option maxHeartbeats 1000000 in
theorem CoreIn.turn_step (h : CoreIn fa w b p F1 F2 F3 s) (ok : s.Ok) :
    Calls Try.prog 88 #[.pointer (some ⟨b, 0, none⟩)] w (StepPost fa b (foot b p F1 F2 F3) s.turn w) := by
  have c0 := Ext.ofBlk (i := 0) (v := .int .i64 s.n) h.blk rfl
  have c4 := Ext.ofBlk (i := 4) (v := .int .i64 s.view) h.blk rfl
  have d11 := cell_ofBlk (i := 11) (v := .map (some p.ms)) h.blk rfl
  obtain ⟨es, hs, hR⟩ := h.seen
  have hl := ok.seen_length
  have hn := ok.n
  obtain ⟨f, hf⟩ : ∃ f : Nat, (f : Int) = (s.n - 1) / 3 := ⟨((s.n - 1) / 3).toNat, by omega⟩
  have hT : s.turn = match s.far with | some v => if v ≤ s.view then none else some { s with view := v } | none => none := rfl
  have hF : s.far = if (s.seen.length : Int) ≤ (s.n - 1) / 3 then none else (isort (s.seen.map (·.2)))[s.seen.length - 1 - f]? := by
    unfold St.far few
    rw [← hf]
    rfl
  have hil : (isort (s.seen.map (·.2))).length = s.seen.length := by rw [(isort_perm _).length_eq]; simp
  obtain ⟨o, ho⟩ : ∃ o, s.turn = o := ⟨_, rfl⟩
  rw [ho] at hT ⊢
  go_enter Try.func88, Try.ntmps88
  go_wp2_with (first
    | (go_at_call 108; refine (values_of _ _).mono ?_; rintro e w1 ⟨rfl, rfl⟩)
    | (go_at_call 69; refine (sorted124 p.ms es s.seen w hR hs (by omega)).mono ?_; rintro e ws ⟨a, c, rfl, hI, hE, _⟩
       have hEw : Ext w ws := (ext_of_grown (World.grownBy_alloc w _ none)).trans hE
       have h2 := h.ext hEw
       have c4 := Ext.ofBlk (i := 4) (v := .int .i64 s.view) h2.blk rfl
       have d0 := cell_ofBlk (i := 0) (v := .int .i64 s.n) h2.blk rfl))
  clear c0
  by_cases hle : (s.seen.length : Int) ≤ (s.n - 1) / 3
  · rw [if_pos hle] at hF
    rw [hF] at hT
    subst hT
    refine wp_region_segs (by kernel_rfl) [] [0, 1, 2, 3, 4, 5, 6, 7, 8, 9, 10, 11, 12, 13, 14, 15, 16, 17, 18] [] (by decide +kernel) (fun c a d u w h => by cases d <;> exact h) ?_
    simp only [pickO, pickS, nthO, wpSegs]
    repeat (go_big_quiet_step (fail))
    refine wpQuiet_nil ?_
    refine wpList_nil ?_
    go_wp2
    go_ret
    exact ⟨rfl, hEw.trans (Ext.drew _)⟩
  · obtain ⟨pa, rfl⟩ : ∃ p, a = some p := by
      cases a with
      | none => have h0 : isort (s.seen.map (·.2)) = [] := hI; rw [h0] at hil; simp at hil; omega
      | some p => exact ⟨p, rfl⟩
    obtain ⟨pb, po, ps⟩ := pa
    obtain rfl : ps = none := hI.1
    obtain ⟨x, hx⟩ : ∃ x, (isort (s.seen.map (·.2)))[s.seen.length - 1 - f]? = some x := ⟨_, List.getElem?_eq_getElem (by omega)⟩
    rw [if_neg hle, hx] at hF
    rw [hF] at hT
    have hq : ∀ W, IS W (some ⟨pb, po, none⟩) (isort (s.seen.map (·.2))) → W.cell? ⟨pb, po + (s.seen.length - 1 - f), none⟩ = some (.int .i64 x) := fun W hW => hW.cell hx
    have q1 : ∀ y, (later ws y).cell? ⟨pb, po + (s.seen.length - 1 - f), none⟩ = some (.int .i64 x) := fun y => hq _ (hI.ext ⟨y, rfl⟩)
    have q2 : ws.drew.cell? ⟨pb, po + (s.seen.length - 1 - f), none⟩ = some (.int .i64 x) := hq _ (hI.ext (Ext.drew _))
    have e1 : ((s.seen.length : Int) - 1 - (s.n - 1) / 3) = ((s.seen.length - 1 - f : Nat) : Int) := by omega
    refine wp_region_segs (by kernel_rfl) [] [0, 1, 2, 3, 4, 5, 6, 7, 8, 9, 10, 11, 12, 13, 14, 15, 16, 17, 18] [] (by decide +kernel) (fun c a d u w h => by cases d <;> exact h) ?_
    simp only [pickO, pickS, nthO, wpSegs]
    repeat (go_big_quiet_step (fail))
    refine wpQuiet_nil ?_
    refine wpList_nil ?_
    by_cases hv : x ≤ s.view
    · simp only [if_pos hv] at hT
      subst hT
      go_wp2
      go_ret
      exact ⟨rfl, hEw.trans (Ext.drew _)⟩
    · simp only [if_neg hv] at hT
      subst hT
      have hEd : Ext w ws.drew := hEw.trans (Ext.drew _)
      have h3 := h.ext hEd
      have d4 := cell_ofBlk (i := 4) (v := .int .i64 s.view) h3.blk rfl
      have f4 : ws.drew.frozen? ⟨b, 4, none⟩ = false := frozen_ofBlk h3.blk
      have hup : ∀ W, W = ws.drew.setCell ⟨b, 4, none⟩ (.int .i64 x) → CorePost fa b (foot b p F1 F2 F3) { s with view := x } w W := fun W hW => by
        have hTn : Turn [b] ws.drew W := by rw [hW]; exact Turn.setCell ws.drew ⟨b, 4, none⟩ _
        refine CorePost.trans (hEd.turn _) (fun _ hk => .inl hk) ⟨_, ⟨p, F1, F2, F3, rfl, h3.upd (s' := { s with view := x }) (p' := p) hTn ?_ ⟨rfl, rfl, rfl, rfl, rfl, rfl⟩ ⟨rfl, rfl, rfl, rfl, rfl, rfl⟩ ?_ ?_ ?_⟩, hTn.mono (by simp [foot]), fun _ hk => .inl hk⟩
        · rw [hW]; exact heap_setCell_blk h3.blk 4 _
        · exact h3.wish.turn hTn (h3.one foot_mem.1)
        · exact h3.locked.turn hTn (h3.one foot_mem.1)
        · exact h3.value.turn hTn (h3.one foot_mem.1)
      go_wp2
      go_ret
      exact ⟨rfl, hup _ rfl⟩
end
end Go.Proofs.Ytiofkiaibcmdhaa
