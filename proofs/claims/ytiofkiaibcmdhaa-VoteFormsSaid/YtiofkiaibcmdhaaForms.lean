import Derived.Test.YtiofkiaibcmdhaaOf
import Derived.Deep.CutRange
namespace Go.Proofs.Ytiofkiaibcmdhaa
open Go Go.RowKit

theorem votesL_ok {n me cview : Int} (hm : 1 ≤ me ∧ me ≤ n) (hc : cview ≤ 1048576) : ∀ (k : Nat) (last : Int) (r : Rd) (vs : List (Int × Told)), r.1.length ≤ 4096 → ViewsOk n vs → ViewsOk n (votesL me cview k last r vs).2 := by
  intro k
  induction k with
  | zero => intro last r vs _ h; exact h
  | succ k ih =>
    intro last r vs hr h
    have h0 := fourR_range r
    have h1 := (fourR_range (fourR r).2).2.2
    have h2 := takeR_len (fourR (fourR r).2).1.toNat (fourR (fourR r).2).2
    unfold votesL
    simp only
    split
    · exact h
    · rename_i hcond
      simp only [Bool.or_eq_true, decide_eq_true_eq, not_or] at hcond
      exact ih _ _ _ (by omega) (h.set ⟨h0.1, by omega⟩ hm.1 hm.2 (by omega))

theorem foldl_pick {α β : Type} {f : α → β} {z : β} {l : List α} {P : β → Prop} (hz : P z) (h : ∀ v ∈ l, P (f v)) : P (l.foldl (fun _ v => f v) z) := by
  induction l generalizing z with
  | nil => exact hz
  | cons x l ih => exact ih (h x (List.mem_cons_self ..)) fun v hv => h v (List.mem_cons_of_mem _ hv)

theorem lastOf_ok {n me : Int} {m : List (Int × Told)} (h : ViewsOk n m) : -1 ≤ (lastOf m me).1 ∧ (lastOf m me).1 ≤ 1048576 ∧ (lastOf m me).2.length ≤ 4096 := by
  unfold lastOf
  refine foldl_pick (P := fun q : Int × Bytes => -1 ≤ q.1 ∧ q.1 ≤ 1048576 ∧ q.2.length ≤ 4096) (by simp) fun v hv => ?_
  have hv' := (isort_perm _).mem_iff.1 hv
  obtain ⟨⟨k, t⟩, hm, rfl⟩ := List.mem_map.1 hv'
  have := h.2 k t hm
  refine ⟨by simp only; omega, by simp only; omega, ?_⟩
  show ((at2 m k me).getD []).length ≤ 4096
  cases hg : at2 m k me with
  | none => simp
  | some x =>
    unfold at2 at hg
    exact ((h.get k).2 _ _ (getV_mem hg)).2.2

theorem parse_ok {n me slot : Int} (hn : 4 ≤ n ∧ n ≤ 64) (hm : 1 ≤ me ∧ me ≤ n) (hs : 0 ≤ slot ∧ slot ≤ 256) {l : Bytes} (hl : l.length ≤ 4096) (hw : (parse me l).wrong = false) : ((parse me l).core n me slot).Ok := by
  obtain ⟨q1, hq1⟩ : ∃ q1, fourR (l, false) = q1 := ⟨_, rfl⟩
  obtain ⟨q2, hq2⟩ : ∃ q2, votesR me q1.1 q1.2 [] = q2 := ⟨_, rfl⟩
  obtain ⟨q3, hq3⟩ : ∃ q3, votesR me q1.1 q2.1 [] = q3 := ⟨_, rfl⟩
  obtain ⟨q4, hq4⟩ : ∃ q4, takeR 1 q3.1 = q4 := ⟨_, rfl⟩
  obtain ⟨q5, hq5⟩ : ∃ q5, fourR q4.2 = q5 := ⟨_, rfl⟩
  obtain ⟨q6, hq6⟩ : ∃ q6, takeR q5.1.toNat q5.2 = q6 := ⟨_, rfl⟩
  have hpq : parse me l = ⟨q1.1, q2.2, q3.2, q4.1, q6.1, q6.2.2⟩ := by
    unfold parse
    simp only [hq1, hq2, hq3, hq4, hq5, hq6]
  have h1 : 0 ≤ q1.1 ∧ q1.1 < 4294967296 ∧ q1.2.1.length ≤ l.length := by rw [← hq1]; exact fourR_range (l, false)
  have h2 : q2.1.1.length ≤ q1.2.1.length := by rw [← hq2]; exact votesR_len ..
  have h3 : q3.1.1.length ≤ q2.1.1.length := by rw [← hq3]; exact votesR_len ..
  have h4 : q4.2.1.length ≤ q3.1.1.length := by rw [← hq4]; exact (takeR_len _ _).2
  have h5 : q5.2.1.length ≤ q4.2.1.length := by rw [← hq5]; exact (fourR_range _).2.2
  have h6 : q6.1.length ≤ q5.2.1.length := by rw [← hq6]; exact (takeR_len _ _).1
  rw [hpq] at hw ⊢
  unfold Parsed.wrong at hw
  simp only [Bool.or_eq_false_iff, decide_eq_false_iff_not] at hw
  obtain ⟨⟨_, hv⟩, _⟩ := hw
  have hp : ViewsOk n q2.2 := by rw [← hq2]; exact votesL_ok hm (by omega) _ _ _ _ (by have := (fourR_range q1.2).2.2; omega) ⟨List.nodup_nil, fun _ _ h => by cases h⟩
  have hc : ViewsOk n q3.2 := by rw [← hq3]; exact votesL_ok hm (by omega) _ _ _ _ (by have := (fourR_range q2.1).2.2; omega) ⟨List.nodup_nil, fun _ _ h => by cases h⟩
  have hlast := lastOf_ok (me := me) hc
  exact { fresh_ok hn hm hs with view := ⟨h1.1, by show q1.1 ≤ 1048576; omega⟩, preps := hp, comms := hc, lock := ⟨hlast.1, hlast.2.1⟩, locked := hlast.2.2, value := by show q6.1.length ≤ 4096; omega }

theorem ofB_bytes {n me slot : Int} {l : Bytes} {s : St} (h : ofB n me slot l = some s) : s.bytes = l := by
  unfold ofB at h
  split at h
  · cases h
  · split at h
    · rename_i hb; cases h; exact hb
    · cases h

set_option maxRecDepth 100000 in
set_option maxHeartbeats 1000000 in
theorem forms_of (n me slot : Int) (a : Option Addr) (c : Nat) (l : Bytes) (w : World) (hb : BS w a l) (hm : l.length ≤ maxLen) :
    Calls Try.prog 4 #[.int .i64 n, .int .i64 me, .int .i64 slot, .slice a l.length c] w fun e w' => e = .returned (.bool true) ∧ Ext w w' := by
  have hm' : l.length ≤ 9223372036854775807 := hm
  clear hm
  by_cases hlen : l.length ≤ 2000
  · clear hm'
    obtain ⟨N, hN, hN4, hN12⟩ := umod_plus 4 n (k := 9) (by omega) (by omega) (by omega) (by omega)
    have hNw := wrapU_small (z := N) (by omega) (by omega)
    obtain ⟨M, hM, hM1, hMN⟩ := umod_plus 1 me (k := N) (by omega) (by omega) (by omega) (by omega)
    obtain ⟨S, hS, hS0, hS1⟩ := umod_bare slot (k := 257) (by omega) (by omega)
    have hNz : ¬ N = 0 := by omega
    go_enter Try.func4, Try.ntmps4
    go_upto_region 6 with (go_at_call 12; refine (lives_of _).mono ?_; rintro e w1 ⟨rfl, hE1⟩)
    obtain ⟨w2, hw2⟩ : ∃ w2, w1.alloc (.cells #[] 5) = w2 := ⟨_, rfl⟩
    obtain ⟨n2, hn2⟩ : ∃ n2, w1.heap.size = n2 := ⟨_, rfl⟩
    have e2 : Ext w1 w2 := by rw [← hw2]; exact ext_of_grown (World.grownBy_alloc w1 _ none)
    have hown : OB w2 n2 (.slice (some ⟨n2, 0, none⟩) 0 0) [] := by rw [← hw2, ← hn2]; exact World.ownsRow_made w1 #[] 0 (Nat.le_refl _) (by simp [maxLen]) rfl
    have hb2 := (hb.ext hE1).ext e2
    have hs2 : n2 ≤ w2.heap.size := by have := e2.size; omega
    go_upto_region 7 with (at_builtin; refine wpList_append_bytes rfl (.tmp 36) (.tmp 37) rfl n2 _ [] l rfl hown a l.length c rfl rfl hb2 (by simp; omega) hs2 ?_; intro v3 w3 hO3 hg3; obtain ⟨a3, c3, rfl, hb3, _, hcm3, hlc3⟩ := hO3.form)
    have hE3 : Ext w w3 := (hE1.trans e2).own hg3 fun r hr => by have := (hown.lt r hr).1; have := hE1.size; omega
    have hb3' : BB w3 a3 l := by simpa using hb3
    have hlc3' : l.length ≤ c3 := by simpa using hlc3
    clear hN hNw hM hS hNz hO3 hg3 hb3 hlc3 hown hb2 hs2 e2 hw2 hn2
    have cOf := of_of 26 N M S (by omega) (by omega) (by omega) a3 l.length c3 l rfl w3 hb3' hlc3' hcm3 (by omega) (fun hw => parse_ok (by omega) (by omega) (by omega) (by omega) hw)
    clear hcm3 hlc3'
    obtain ⟨o, ho⟩ : ∃ o, ofB N M S l = o := ⟨_, rfl⟩
    rw [ho] at cOf
    have hbb : ∀ s, o = some s → s.bytes = l := fun s hs => ofB_bytes (ho.trans hs)
    clear ho
    have kb : ∀ W : World, Ext w W → (convert 29 9 (.slice a l.length c)).run Try.prog W = .ok (.string (strOf l)) W := fun W hW => run_string_of_bytes (P := Try.prog) c Try.underlying29 Try.underlying5 Try.underlying9 (hb.ext hW)
    have k3 : ∀ W : World, Ext w3 W → (convert 29 9 (.slice a3 l.length c3)).run Try.prog W = .ok (.string (strOf l)) W := fun W hW => run_string_of_bytes (P := Try.prog) c3 Try.underlying29 Try.underlying5 Try.underlying9 (hb3'.ext hW).bs
    cases o with
    | none =>
      go_upto_region 8 with (go_at_call 25; refine cOf.mono ?_; rintro e w4 ⟨hE4, hpost⟩; obtain rfl := hpost)
      have kb4 := kb w4 (hE3.trans hE4)
      have k34 := k3 w4 hE4
      clear kb k3
      go_wp2_with fail
      go_ret
      exact ⟨rfl, hE3.trans hE4⟩
    | some s =>
      have hsb := hbb s rfl
      go_upto_region 8 with (go_at_call 25; refine cOf.mono ?_; rintro e w4 ⟨hE4, b4, fp4, rfl, hC4, ok4, _⟩)
      have kb4 := kb w4 (hE3.trans hE4)
      have k34 := k3 w4 hE4
      go_upto_region 12 with fail
      have kbx : ∀ x, (convert 29 9 (.slice a l.length c)).run Try.prog (later w4 x) = .ok (.string (strOf l)) (later w4 x) := fun x => kb _ ((hE3.trans hE4).trans ⟨x, rfl⟩)
      clear kb4 k34 k3 hbb
      refine wp_region_segs (by kernel_rfl) [([0, 3, 4], 1)] [2, 5, 6] [] (by decide +kernel) (fun c a d u w h => by cases d <;> exact h) ?_
      simp only [pickO, pickS, nthO, wpSegs]
      repeat (go_big_quiet_step (fail))
      refine wpQuiet_nil ?_
      refine live_step rfl (fun K hK => ?_)
      go_simp
      refine ((hC4.ext (Ext.drew w4)).bytes_of ok4).mono ?_
      rintro e w5 ⟨v5, rfl, hO5, hE5, _⟩
      rw [hsb] at hO5
      obtain ⟨a5, c5, rfl, hb5, _, _⟩ := hO5.form
      refine hK _ w5 w5 hE5 (Ext.refl _) ?_
      have k5 : ∀ x, (convert 29 9 (.slice a5 l.length c5)).run Try.prog (later w5 x) = .ok (.string (strOf l)) (later w5 x) := fun x => run_string_of_bytes (P := Try.prog) c5 Try.underlying29 Try.underlying5 Try.underlying9 (hb5.ext ⟨x, rfl⟩).bs
      clear hK K kbx kb hsb
      repeat (go_big_quiet_step (fail))
      refine wpQuiet_nil ?_
      refine wpList_nil ?_
      go_wp2_with fail
      go_ret
      exact ⟨rfl, ((hE3.trans hE4).trans (Ext.drew _)).trans hE5⟩
  · clear hm'
    go_enter Try.func4, Try.ntmps4
    go_wp2_with (go_at_call 12; refine (lives_of _).mono ?_; rintro e w1 ⟨rfl, hE1⟩)
    go_ret
    exact ⟨rfl, Ext.trans (by assumption) hE1⟩
end Go.Proofs.Ytiofkiaibcmdhaa
