import Derived.Test.YtiofkiaibcmdhaaUpd
namespace Go.Proofs.Ytiofkiaibcmdhaa
open Go Go.RowKit

set_option maxHeartbeats 400000 in
theorem proposer_any (b : Nat) (n slot view : Int) (w : World) (hn : ∀ x, (later w x).cell? ⟨b, 0, none⟩ = some (.int .i64 n)) (hs : ∀ x, (later w x).cell? ⟨b, 2, none⟩ = some (.int .i64 slot))
   (h1 : 4 ≤ n) (h2 : n ≤ 64) (h3 : 0 ≤ slot) (h4 : slot ≤ 256) (h5 : 0 ≤ view) (h6 : view ≤ 1048576) :
    Calls Try.prog 63 #[.pointer (some ⟨b, 0, none⟩), .int .i64 view] w fun e w' => e = .returned (.int .i64 (1 + (slot + view) % n)) ∧ Ext w w' := by
  have g1 : 0 ≤ (slot + view) % n := Int.emod_nonneg _ (by omega)
  have g2 : (slot + view) % n < n := Int.emod_lt_of_pos _ (by omega)
  go_enter Try.func63, Try.ntmps63
  go_wp2_with fail
  refine wp_region_segs (by kernel_rfl) [] [0, 1, 2, 3, 4, 5, 6, 7, 8, 9, 10, 11, 12] [] (by decide +kernel) (fun c a d u w h => by cases d <;> exact h) ?_
  simp only [pickO, pickS, nthO, wpSegs]
  repeat (go_big_quiet_step (fail))
  refine wpQuiet_nil ?_
  refine wpList_nil ?_
  go_wp2
  go_ret
  exact ⟨rfl, Ext.drew w⟩

section
variable {fa : Nat} {w : World} {b : Nat} {p : Ptr} {F1 F2 F3 : List Nat} {s : St}
theorem CoreIn.proposer (h : CoreIn fa w b p F1 F2 F3 s) (ok : s.Ok) (view : Int) (h5 : 0 ≤ view) (h6 : view ≤ 1048576) :
    Calls Try.prog 63 #[.pointer (some ⟨b, 0, none⟩), .int .i64 view] w fun e w' => e = .returned (.int .i64 (s.proposer view)) ∧ Ext w w' :=
  proposer_any b s.n s.slot view w (Ext.ofBlk h.blk rfl) (Ext.ofBlk h.blk rfl) ok.n.1 ok.n.2 ok.slot.1 ok.slot.2 h5 h6

/-- A lookup in a map of views. -/
theorem ViewsAt.look {w : World} {m : Nat} {F : List Nat} {vs : List (Int × Told)} (h : ViewsAt w m F vs) (k : Int) : ∃ r, (∀ x, Sem.run Try.prog (Instr.lookup 105 (.map (some m)) (.int .i64 k) false) (later w x) = .ok (.map r) (later w x)) ∧
    ((r = none ∧ getV vs k = none) ∨ ∃ q t, r = some q ∧ getV vs k = some t ∧ ToldAt w q t) := by
  obtain ⟨es, hm, hR, rfl⟩ := h
  have q : ∀ x, _ := fun x => run_lookup_obj (P := Try.prog) (w := later w x) false k Try.underlying105 Try.underlying3 (Try.zeroValue108 _) (later_heap hm)
  rcases hR.get k with ⟨g1, g2⟩ | ⟨v, t, g1, g2, ⟨r, rfl, ht⟩, _⟩
  · refine ⟨none, fun x => ?_, .inl ⟨rfl, g2⟩⟩
    have := q x
    simpa [g1] using this
  · refine ⟨some r, fun x => ?_, .inr ⟨r, t, rfl, g2, ht⟩⟩
    have := q x
    simpa [g1] using this

theorem later_zero (w : World) : later w ⟨#[], w.drawn⟩ = w := by simp [later]
theorem at_zero {w : World} {Q : World → Prop} (h : ∀ x, Q (later w x)) : Q w := by have := h ⟨#[], w.drawn⟩; rwa [later_zero] at this

theorem ToldAt.ext {w w' : World} {r : Nat} {t : Told} (h : ToldAt w r t) (hE : Ext w w') : ToldAt w' r t := h.turn (hE.turn []) (NoByte.nil w) (by simp)

/-- count, of whatever there is. -/
theorem count_look {r : Option Nat} {vs : List (Int × Told)} {k : Int} (h : (r = none ∧ getV vs k = none) ∨ ∃ q t, r = some q ∧ getV vs k = some t ∧ ToldAt w q t) {n : Int} (hn : n ≤ 64) (hv : ViewsOk n vs) (least : Int) :
    Calls Try.prog 112 #[.map r, .int .i64 least] w (CountPost (maj ((getV vs k).getD []) least) w) := by
  rcases h with ⟨rfl, h⟩ | ⟨q, t, rfl, h, ht⟩
  · rw [h]; exact count_nil least w
  · have hl := (hv.2 k t (getV_mem h)).2.2.length hn
    rw [h]; exact count_some q t least w ht (by omega)

set_option maxRecDepth 100000 in
set_option maxHeartbeats 1000000 in
theorem CoreIn.prepared (h : CoreIn fa w b p F1 F2 F3 s) (ok : s.Ok) (view : Int) :
    Calls Try.prog 111 #[.pointer (some ⟨b, 0, none⟩), .int .i64 view] w (CountPost (s.prepared view) w) := by
  have c0 := Ext.ofBlk (i := 0) (v := .int .i64 s.n) h.blk rfl
  have c8 := Ext.ofBlk (i := 8) (v := .map (some p.mpr)) h.blk rfl
  obtain ⟨r, hlk, hr⟩ := h.preps.look view
  have hn := ok.n
  have hp := ok.preps
  obtain ⟨o, ho⟩ : ∃ o, s.prepared view = o := ⟨_, rfl⟩
  have hpr : maj ((getV s.prepares view).getD []) (s.n - (s.n - 1) / 3) = o := ho
  rw [ho]
  clear h ok ho
  go_enter Try.func111, Try.ntmps111
  go_wp2_with fail
  refine wp_region_segs (by kernel_rfl) [([0, 1, 2, 3, 4, 5, 6, 7, 8, 9], 10), ([], 11)] [12, 13, 14, 15] [] (by decide +kernel) (fun c a d u w h => by cases d <;> exact h) ?_
  simp only [pickO, pickS, nthO, wpSegs]
  repeat (go_big_quiet_step (fail))
  refine wpQuiet_nil ?_
  refine live_step rfl (fun K hK => ?_)
  go_simp
  refine (quorum_any s.n _ (by omega) (by omega)).mono ?_
  rintro e w1 ⟨rfl, rfl⟩
  refine hK _ _ _ (Ext.refl _) (Ext.refl _) ?_
  clear hK K
  refine wpQuiet_nil ?_
  refine live_step rfl (fun K hK => ?_)
  go_simp
  have hr' : (r = none ∧ getV s.prepares view = none) ∨ ∃ q t, r = some q ∧ getV s.prepares view = some t ∧ ToldAt w.drew q t := by
    rcases hr with hr | ⟨q, t, h1, h2, h3⟩
    · exact .inl hr
    · exact .inr ⟨q, t, h1, h2, h3.ext (Ext.drew w)⟩
  refine (count_look hr' hn.2 hp _).mono ?_
  rintro e w1 ⟨hE, hC⟩
  rw [hpr] at hC
  cases o with
  | none =>
    simp only at hC
    subst hC
    refine hK _ _ _ hE (Ext.refl _) ?_
    clear hK K
    repeat (go_big_quiet_step (fail))
    refine wpQuiet_nil ?_
    refine wpList_nil ?_
    go_wp2
    go_ret2
    exact ⟨(Ext.drew w).trans hE, rfl⟩
  | some v =>
    simp only at hC
    obtain ⟨a, c, rfl, hb⟩ := hC
    refine hK _ _ _ hE (Ext.refl _) ?_
    clear hK K
    repeat (go_big_quiet_step (fail))
    refine wpQuiet_nil ?_
    refine wpList_nil ?_
    go_wp2
    go_ret2
    exact ⟨(Ext.drew w).trans hE, a, c, rfl, hb⟩
end
end Go.Proofs.Ytiofkiaibcmdhaa
