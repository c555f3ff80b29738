import Derived.Test.YtiofkiaibcmdhaaP5
import Derived.Test.YtiofkiaibcmdhaaSteps
namespace Go.Proofs.Ytiofkiaibcmdhaa
open Go Go.RowKit

section
variable {fa : Nat} {w : World} {b : Nat} {fp : List Nat} {s : St} {okf : Bytes → Bool}

/-- Between two rounds of 'act': at most n steps are left. -/
def ActAt (fa b : Nat) (fp : List Nat) (okf : Bytes → Bool) (s : St) (w wr : World) (n : Nat) : Prop :=
  ∃ t, t.Ok ∧ t.left ≤ n ∧ (∀ u, Acts okf t u → Acts okf s u) ∧ CorePost fa b fp t w wr

set_option maxRecDepth 100000 in
set_option maxHeartbeats 2000000 in
theorem CoreAt.act (h : CoreAt fa w b fp s) (ok : s.Ok) (hA : Accepts fa okf) :
    Calls Try.prog 61 #[.pointer (some ⟨b, 0, none⟩)] w fun e w' => e = .returned (.tuple #[]) ∧ ∃ t, t.Ok ∧ Acts okf s t ∧ CorePost fa b fp t w w' := by
  go_enter Try.func61, Try.ntmps61
  go_wp2_with fail
  go_loopw [] (fun wr => ∃ n, ActAt fa b fp okf s w wr n) (fun wr => leastOf (ActAt fa b fp okf s w wr))
  case atStart => exact ⟨_, s, ok, Nat.le_refl _, fun u hu => hu, CorePost.ext h (Ext.refl w)⟩
  case round =>
    obtain ⟨t, okt, hlt, hacts, fq, ⟨p, F1, F2, F3, rfl, ht⟩, hT, hnew⟩ := leastOf_spec hrel
    have d15 := cell_ofBlk (i := 15) (v := .bool t.decided) ht.blk rfl
    have fin : ∀ u W, t.step okf = some u → CorePost fa b (foot b p F1 F2 F3) u wr W → t.decided = false → (∃ n, ActAt fa b fp okf s w W n) ∧ leastOf (ActAt fa b fp okf s w W) < leastOf (ActAt fa b fp okf s w wr) := by
      intro u W hs hC hd
      obtain ⟨ok2, hlt2⟩ := okt.step hd hs
      have hg : ActAt fa b fp okf s w W u.left := ⟨u, ok2, Nat.le_refl _, fun v hv => hacts v (.go hd hs hv), CorePost.trans hT hnew hC⟩
      refine ⟨⟨_, hg⟩, ?_⟩
      have := leastOf_le hg
      omega
    clear hrel
    cases hd : t.decided with
    | true =>
      rw [hd] at d15
      go_wp2_with fail
      go_end0
      exact ⟨rfl, t, okt, hacts t (.done hd), CorePost.trans hT hnew (CorePost.ext ⟨p, F1, F2, F3, rfl, ht⟩ (Ext.refl _))⟩
    | false =>
      rw [hd] at d15
      have c1 := ht.turn_step okt
      cases h1 : t.turn with
      | some u =>
        rw [h1] at c1
        have hs : t.step okf = some u := by simp [St.step, h1]
        go_wp2_with (go_at_call 88; refine c1.mono ?_; rintro e w1 ⟨rfl, hC⟩)
        exact fin u w1 hs hC hd
      | none =>
        rw [h1] at c1
        cases h2 : t.propose with
        | some u =>
          have hs : t.step okf = some u := by simp [St.step, h1, h2]
          go_wp2_with (first
            | (go_at_call 88; refine c1.mono ?_; rintro e w1 ⟨rfl, e1⟩; have c2 := (ht.ext e1).propose_step okt; rw [h2] at c2)
            | (go_at_call 89; refine c2.mono ?_; rintro e w2 ⟨rfl, hC⟩))
          exact fin u w2 hs (CorePost.trans (e1.turn _) (fun _ hk => .inl hk) hC) hd
        | none =>
          cases h3 : t.prepare okf with
          | some u =>
            have hs : t.step okf = some u := by simp [St.step, h1, h2, h3]
            go_wp2_with (first
              | (go_at_call 88; refine c1.mono ?_; rintro e w1 ⟨rfl, e1⟩; have c2 := (ht.ext e1).propose_step okt; rw [h2] at c2)
              | (go_at_call 89; refine c2.mono ?_; rintro e w2 ⟨rfl, e2⟩; have e12 := e1.trans e2; have c3 := (ht.ext e12).prepare_step okt hA; rw [h3] at c3)
              | (go_at_call 90; refine c3.mono ?_; rintro e w3 ⟨rfl, hC⟩))
            exact fin u w3 hs (CorePost.trans (e12.turn _) (fun _ hk => .inl hk) hC) hd
          | none =>
            cases h4 : t.commit with
            | some u =>
              have hs : t.step okf = some u := by simp [St.step, h1, h2, h3, h4]
              go_wp2_with (first
                | (go_at_call 88; refine c1.mono ?_; rintro e w1 ⟨rfl, e1⟩; have c2 := (ht.ext e1).propose_step okt; rw [h2] at c2)
                | (go_at_call 89; refine c2.mono ?_; rintro e w2 ⟨rfl, e2⟩; have e12 := e1.trans e2; have c3 := (ht.ext e12).prepare_step okt hA; rw [h3] at c3)
                | (go_at_call 90; refine c3.mono ?_; rintro e w3 ⟨rfl, e3⟩; have e13 := e12.trans e3; have c4 := (ht.ext e13).commit_step okt; rw [h4] at c4)
                | (go_at_call 91; refine c4.mono ?_; rintro e w4 ⟨rfl, hC⟩))
              exact fin u w4 hs (CorePost.trans (e13.turn _) (fun _ hk => .inl hk) hC) hd
            | none =>
              cases h5 : t.decide' with
              | some u =>
                have hs : t.step okf = some u := by simp [St.step, h1, h2, h3, h4, h5]
                go_wp2_with (first
                  | (go_at_call 88; refine c1.mono ?_; rintro e w1 ⟨rfl, e1⟩; have c2 := (ht.ext e1).propose_step okt; rw [h2] at c2)
                  | (go_at_call 89; refine c2.mono ?_; rintro e w2 ⟨rfl, e2⟩; have e12 := e1.trans e2; have c3 := (ht.ext e12).prepare_step okt hA; rw [h3] at c3)
                  | (go_at_call 90; refine c3.mono ?_; rintro e w3 ⟨rfl, e3⟩; have e13 := e12.trans e3; have c4 := (ht.ext e13).commit_step okt; rw [h4] at c4)
                  | (go_at_call 91; refine c4.mono ?_; rintro e w4 ⟨rfl, e4⟩; have e14 := e13.trans e4; have c5 := (ht.ext e14).decide_step okt; rw [h5] at c5)
                  | (go_at_call 92; refine c5.mono ?_; rintro e w5 ⟨rfl, hC⟩))
                exact fin u w5 hs (CorePost.trans (e14.turn _) (fun _ hk => .inl hk) hC) hd
              | none =>
                have hs : t.step okf = none := by simp [St.step, h1, h2, h3, h4, h5]
                go_wp2_with (first
                  | (go_at_call 88; refine c1.mono ?_; rintro e w1 ⟨rfl, e1⟩; have c2 := (ht.ext e1).propose_step okt; rw [h2] at c2)
                  | (go_at_call 89; refine c2.mono ?_; rintro e w2 ⟨rfl, e2⟩; have e12 := e1.trans e2; have c3 := (ht.ext e12).prepare_step okt hA; rw [h3] at c3)
                  | (go_at_call 90; refine c3.mono ?_; rintro e w3 ⟨rfl, e3⟩; have e13 := e12.trans e3; have c4 := (ht.ext e13).commit_step okt; rw [h4] at c4)
                  | (go_at_call 91; refine c4.mono ?_; rintro e w4 ⟨rfl, e4⟩; have e14 := e13.trans e4; have c5 := (ht.ext e14).decide_step okt; rw [h5] at c5)
                  | (go_at_call 92; refine c5.mono ?_; rintro e w5 ⟨rfl, hC⟩))
                go_end0
                exact ⟨rfl, t.rest, okt.rest, hacts _ (.stop hd hs), CorePost.trans hT hnew (CorePost.trans (e14.turn _) (fun _ hk => .inl hk) hC)⟩
end
end Go.Proofs.Ytiofkiaibcmdhaa
