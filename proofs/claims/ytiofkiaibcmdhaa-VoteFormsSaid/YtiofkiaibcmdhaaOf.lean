import Derived.Test.YtiofkiaibcmdhaaOfM
import Derived.Deep.CutRange
namespace Go.Proofs.Ytiofkiaibcmdhaa
open Go Go.RowKit

/-- What 'Of' leaves. -/
def OfPost (fa : Nat) (o : Option St) (w : World) (e : Ending) (w' : World) : Prop := Ext w w' ∧ match o with
  | none => e = .returned (.tuple #[.pointer none, .int .i64 3])
  | some s => ∃ b fp, e = .returned (.tuple #[.pointer (some ⟨b, 0, none⟩), .int .i64 0]) ∧ CoreAt fa w' b fp s ∧ s.Ok ∧ ∀ k ∈ fp, w.heap.size ≤ k

theorem CoreAt.form {fa : Nat} {w : World} {b : Nat} {fp : List Nat} {s : St} (h : CoreAt fa w b fp s) : ∃ p F1 F2 F3, fp = foot b p F1 F2 F3 ∧ CoreIn fa w b p F1 F2 F3 s := h

theorem ViewsAt.look3 {w : World} {m : Nat} {F : List Nat} {vs : List (Int × Told)} (h : ViewsAt w m F vs) (k who : Int) : ∃ (r : Option Nat) (a : Option Addr) (c : Nat),
    Sem.run Try.prog (Instr.lookup 105 (.map (some m)) (.int .i64 k) false) w = .ok (.map r) w ∧
    Sem.run Try.prog (Instr.lookup 108 (.map r) (.int .i64 who) false) w = .ok (.slice a ((at2 vs k who).getD []).length c) w ∧ BB w a ((at2 vs k who).getD []) := by
  obtain ⟨r, h1, h2⟩ := h.look k
  have h1' : Sem.run Try.prog (Instr.lookup 105 (.map (some m)) (.int .i64 k) false) w = .ok (.map r) w := at_zero (w := w) (Q := fun W => Sem.run Try.prog (Instr.lookup 105 (.map (some m)) (.int .i64 k) false) W = .ok (.map r) W) h1
  rcases h2 with ⟨rfl, hn⟩ | ⟨q, t, rfl, hg, es, hq, hR⟩
  · refine ⟨none, none, 0, h1', ?_, ?_⟩
    · have := run_lookup_nilmap (P := Try.prog) (w := w) false who Try.underlying108 Try.underlying3 (Try.zeroValue29 _)
      simpa [at2, hn, getV] using this
    · simp [at2, hn, getV, BB]
  · have lk := run_lookup_obj (P := Try.prog) (w := w) false who Try.underlying108 Try.underlying3 (Try.zeroValue29 _) hq
    rcases hR.get who with ⟨g1, g2⟩ | ⟨v, l, g1, g2, ⟨a, c, rfl, hb⟩, _⟩
    · exact ⟨some q, none, 0, h1', by simpa [g1, at2, hg, g2] using lk, by simp [at2, hg, g2, BB]⟩
    · exact ⟨some q, a, c, h1', by simpa [g1, at2, hg, g2] using lk, by simpa [at2, hg, g2] using hb⟩

theorem IS.turn {w w' : World} {S : List Nat} {a : Option Addr} {l : List Int} (h : IS w a l) (hT : Turn S w w') (hS : ∀ p, a = some p → p.block ∉ S) : IS w' a l := by
  cases a with
  | none => exact h
  | some p =>
    obtain ⟨h1, cs, e, fz, h2, h3⟩ := h
    exact ⟨h1, cs, e, fz, hT.block _ (hS p rfl) _ h2, h3⟩

theorem foldl_last {l : List Int} {i : Nat} {k : Int} {f : Int → Int × Bytes} (h : l[i]? = some k) : (l.take (i + 1)).foldl (fun _ v => f v) (-1, []) = f k := by
  rw [List.take_add_one, h, List.foldl_append]
  rfl

theorem foot_swap1 {b rb : Nat} {p : Ptr} {F1 F1' F2 F3 : List Nat} (h : rb ∉ foot b p F1 F2 F3) (hn : rb ∉ F1') : rb ∉ foot b p F1' F2 F3 := by
  simp only [foot, List.mem_append, not_or] at h ⊢
  exact ⟨h.1, hn, h.2.2⟩
theorem foot_swap2 {b rb : Nat} {p : Ptr} {F1 F2 F2' F3 : List Nat} (h : rb ∉ foot b p F1 F2 F3) (hn : rb ∉ F2') : rb ∉ foot b p F1 F2' F3 := by
  simp only [foot, List.mem_append, not_or] at h ⊢
  exact ⟨h.1, h.2.1, hn, h.2.2.2⟩
theorem foot_new1 {b N : Nat} {p : Ptr} {F1 F1' F2 F3 : List Nat} (h : ∀ k ∈ foot b p F1 F2 F3, N ≤ k) (hn : ∀ k ∈ F1', k ∈ F1 ∨ N ≤ k) : ∀ k ∈ foot b p F1' F2 F3, N ≤ k := by
  intro k hk
  simp only [foot, List.mem_append] at h hk
  rcases hk with hk | hk | hk
  · exact h k (.inl hk)
  · rcases hn k hk with h2 | h2
    · exact h k (.inr (.inl h2))
    · exact h2
  · exact h k (.inr (.inr hk))
theorem foot_new2 {b N : Nat} {p : Ptr} {F1 F2 F2' F3 : List Nat} (h : ∀ k ∈ foot b p F1 F2 F3, N ≤ k) (hn : ∀ k ∈ F2', k ∈ F2 ∨ N ≤ k) : ∀ k ∈ foot b p F1 F2' F3, N ≤ k := by
  intro k hk
  simp only [foot, List.mem_append] at h hk
  rcases hk with hk | hk | hk | hk
  · exact h k (.inl hk)
  · exact h k (.inr (.inl hk))
  · rcases hn k hk with h2 | h2
    · exact h k (.inr (.inr (.inl h2)))
    · exact h2
  · exact h k (.inr (.inr (.inr hk)))

theorem ReaderAt.form {w : World} {rb : Nat} {r : Rd} (h : ReaderAt w rb r) : ∃ a c, w.heap[rb]? = some (.cells #[.slice a r.1.length c, .bool r.2] 126) ∧ BB w a r.1 ∧ r.1.length ≤ c ∧ c ≤ maxLen := h

set_option maxRecDepth 100000 in
set_option maxHeartbeats 4000000 in
theorem of_of (fa : Nat) (n me slot : Int) (hn : 4 ≤ n ∧ n ≤ 64) (hm : 1 ≤ me ∧ me ≤ n) (hs : 0 ≤ slot ∧ slot ≤ 256) (a : Option Addr) (len c : Nat) (l : Bytes) (hln : l.length = len) (w : World) (hb : BB w a l) (hlc : l.length ≤ c) (hcm : c ≤ maxLen) (hlen : l.length ≤ 70368744177664)
    (hok : (parse me l).wrong = false → ((parse me l).core n me slot).Ok) :
    Calls Try.prog 25 #[.int .i64 n, .int .i64 me, .int .i64 slot, .func (.func fa) #[] #[], .slice a len c] w (OfPost fa (ofB n me slot l) w) := by
  subst hln
  obtain ⟨o, ho⟩ : ∃ o, ofB n me slot l = o := ⟨_, rfl⟩
  rw [ho]
  obtain ⟨N0, hN0⟩ : ∃ N0, w.heap.size = N0 := ⟨_, rfl⟩
  obtain ⟨q1, hq1⟩ : ∃ q1, fourR (l, false) = q1 := ⟨_, rfl⟩
  obtain ⟨view, rd1⟩ := q1
  go_enter Try.func25, Try.ntmps25
  go_upto_region 6 with (first
    | (go_at_call 14; refine (new_of fa n me slot w hn hm hs).mono ?_; rintro e w1 ⟨b, fp, rfl, hC1, hE1, hfp⟩
       obtain ⟨p, F1, F2, F3, rfl, hI1⟩ := hC1.form
       obtain ⟨rb, hrb⟩ : ∃ rb, w1.heap.size = rb := ⟨_, rfl⟩
       obtain ⟨w2, hw2⟩ : ∃ w2, w1.alloc (.cells #[.slice a l.length c, .bool false] 126) = w2 := ⟨_, rfl⟩
       have e2 : Ext w1 w2 := by rw [← hw2]; exact ext_of_grown (World.grownBy_alloc w1 _ none)
       have x2 : w2.heap[rb]? = some (.cells #[.slice a l.length c, .bool false] 126) := by rw [← hw2, ← hrb]; exact heap_alloc_new w1 _
       have hR2 : ReaderAt w2 rb (l, false) := ⟨a, c, x2, (hb.ext hE1).ext e2, hlc, hcm⟩
       have hC2 := CoreIn.ext hI1 e2
       have hrf : rb ∉ foot b p F1 F2 F3 := fun hm => by have := hI1.lt rb hm; omega)
    | (go_at_call 66; refine (rfour_of rb (l, false) w2 hR2).mono ?_; rintro e w3 ⟨rfl, hR3, hT3⟩; rw [hq1] at hR3; rw [hq1]
       have hC3 := CoreIn.turn hC2 hT3 hR2.noByte (fun k hk hk2 => by simp only [List.mem_singleton] at hk2; subst hk2; exact hrf hk)
       have f4 := frozen_ofBlk (i := 4) hC3.blk
       have d4 := cell_ofBlk (i := 4) (v := .int .i64 0) hC3.blk rfl))
  have hvr : 0 ≤ view ∧ view < 4294967296 ∧ rd1.1.length ≤ l.length := by have := fourR_range (l, false); rw [hq1] at this; exact this
  obtain ⟨w4, hw4⟩ : ∃ w4, w3.setCell ⟨b, 4, none⟩ (.int .i64 view) = w4 := ⟨_, rfl⟩
  have hT4 : Turn [b] w3 w4 := by rw [← hw4]; exact Turn.setCell w3 ⟨b, 4, none⟩ _
  have hC4 : CoreIn fa w4 b p F1 F2 F3 { St.fresh n me slot with view := view } := by
    rw [← hw4]
    exact hC3.upd (s' := { St.fresh n me slot with view := view }) (p' := p) (Turn.setCell w3 ⟨b, 4, none⟩ _) (heap_setCell_blk hC3.blk 4 _) ⟨rfl, rfl, rfl, rfl, rfl, rfl⟩ ⟨rfl, rfl, rfl, rfl, rfl, rfl⟩
      (hC3.wish.turn (Turn.setCell w3 ⟨b, 4, none⟩ _) (hC3.one foot_mem.1)) (hC3.locked.turn (Turn.setCell w3 ⟨b, 4, none⟩ _) (hC3.one foot_mem.1)) (hC3.value.turn (Turn.setCell w3 ⟨b, 4, none⟩ _) (hC3.one foot_mem.1))
  have hbf : b ∈ foot b p F1 F2 F3 := foot_mem.1
  have hrb_b : rb ∉ [b] := by simp only [List.mem_singleton]; rintro rfl; exact hrf hbf
  have hR4 : ReaderAt w4 rb rd1 := hR3.turn hT4 (hC3.one foot_mem.1) hrb_b
  have hT24 : Turn (rb :: foot b p F1 F2 F3) w2 w4 := (hT3.mono (by simp)).trans hT4 (fun x hx => by simp only [List.mem_singleton] at hx; subst hx; exact .inl (by simp [hbf]))
  rw [hw4]
  clear f4 d4 hR3 hC3 hT3 hT4 hw4 hR2 x2
  have d8 := cell_ofBlk (i := 8) (v := .map (some p.mpr)) hC4.blk rfl
  obtain ⟨q2, hq2⟩ : ∃ q2, votesR me view rd1 [] = q2 := ⟨_, rfl⟩
  obtain ⟨rd2, ps⟩ := q2
  have hnp : (p.mpr :: F1).Nodup := by
    have := hC4.nodup
    simp only [foot, List.cons_append, List.nil_append, List.nodup_cons, List.mem_cons, List.mem_append, not_or] at this
    rw [List.nodup_append] at this
    exact List.nodup_cons.2 ⟨this.2.2.1.2.2.2.2.1, this.2.2.2.2.2.2.2.1⟩
  go_upto_region 7 with (go_at_call 67; refine (rvotes_of rb b p.mpr F1 [] me view _ rd1 w4 hR4 hC4.blk rfl rfl hC4.preps hnp (by simp) (by omega)).mono ?_; rintro e w5 ⟨rfl, hR5, hT5, F1', hV5, hnd5, hnew5⟩; rw [hq2] at hR5 hV5)
  have hsz2 : N0 ≤ w2.heap.size := by have := hE1.size; have := e2.size; omega
  have hsz4 : w2.heap.size ≤ w4.heap.size := hT24.size
  have hNf : ∀ k ∈ foot b p F1 F2 F3, N0 ≤ k := fun k hk => by have := hfp k hk; omega
  have hNr : N0 ≤ rb := by have := hE1.size; omega
  obtain ⟨ar4, cr4, xr4, _, _⟩ := hR4.form
  obtain ⟨ar5, cr5, xr5, _, _⟩ := hR5.form
  have hC5 := hC4.setPrepsR xr4 xr5 hrf hT5 hV5 (List.nodup_cons.1 hnd5).2 hnew5
  have hrf5 : rb ∉ foot b p F1' F2 F3 := foot_swap1 hrf fun hm => absurd (hV5.kind rb (by simp [hm]) _ _ _ xr5) (by decide)
  have hNf5 : ∀ k ∈ foot b p F1' F2 F3, N0 ≤ k := foot_new1 hNf fun k hk => (hnew5 k hk).imp id fun h => by omega
  have hE5 : Ext w w5 := by
    have h1 : Ext w w4 := (hE1.trans e2).turned hT24 (fun k hk => by
      rcases List.mem_cons.1 hk with rfl | hk
      · omega
      · have := hNf k hk; omega)
    refine h1.turned hT5 (fun k hk => ?_)
    rcases List.mem_cons.1 hk with rfl | hk
    · omega
    · have : k ∈ foot b p F1 F2 F3 := by
        obtain ⟨q0, q1, q2, q3, q4, q5, q6, q7, q8, q9⟩ := foot_mem (b := b) (p := p) (F1 := F1) (F2 := F2) (F3 := F3)
        rcases List.mem_cons.1 hk with rfl | hk
        · exact q2
        · exact q7 k hk
      have := hNf k this; omega
  have hl2 : rd2.1.length ≤ l.length := by
    have := votesR_len me view rd1 []
    rw [hq2] at this
    have := hvr.2.2
    simp only at *
    omega
  clear d8 hC4 hR4 xr4 hT5 hV5 hnd5 hnew5 hT24 hrf hNf hsz4 hsz2 hnp
  have d9 := cell_ofBlk (i := 9) (v := .map (some p.mc)) hC5.blk rfl
  obtain ⟨q3, hq3⟩ : ∃ q3, votesR me view rd2 [] = q3 := ⟨_, rfl⟩
  obtain ⟨rd3, cs⟩ := q3
  have hnp : (p.mc :: F2).Nodup := by
    have := hC5.nodup
    simp only [foot, List.cons_append, List.nil_append, List.nodup_cons, List.mem_cons, List.mem_append, not_or] at this
    obtain ⟨_, _, _, ⟨_, _, _, _, h2, _⟩, _, _, _, h3⟩ := this
    rw [List.nodup_append, List.nodup_append] at h3
    exact List.nodup_cons.2 ⟨h2, h3.2.1.1⟩
  go_upto_region 8 with (go_at_call 67; refine (rvotes_of rb b p.mc F2 [] me view _ rd2 w5 hR5 hC5.blk rfl rfl hC5.comms hnp (by simp) (by omega)).mono ?_; rintro e w6 ⟨rfl, hR6, hT6, F2', hV6, hnd6, hnew6⟩; rw [hq3] at hR6 hV6)
  obtain ⟨ar6, cr6, xr6, _, _⟩ := hR6.form
  have hC6 := hC5.setCommsR xr5 xr6 hrf5 hT6 hV6 (List.nodup_cons.1 hnd6).2 hnew6
  have hrf6 : rb ∉ foot b p F1' F2' F3 := foot_swap2 hrf5 fun hm => absurd (hV6.kind rb (by simp [hm]) _ _ _ xr6) (by decide)
  have hsz5 : N0 ≤ w5.heap.size := by have := hE5.size; omega
  have hNf6 : ∀ k ∈ foot b p F1' F2' F3, N0 ≤ k := foot_new2 hNf5 fun k hk => (hnew6 k hk).imp id fun h => by omega
  have hE6 : Ext w w6 := by
    refine hE5.turned hT6 (fun k hk => ?_)
    rcases List.mem_cons.1 hk with rfl | hk
    · omega
    · have : k ∈ foot b p F1' F2 F3 := by
        obtain ⟨q0, q1, q2, q3, q4, q5, q6, q7, q8, q9⟩ := foot_mem (b := b) (p := p) (F1 := F1') (F2 := F2) (F3 := F3)
        rcases List.mem_cons.1 hk with rfl | hk
        · exact q3
        · exact q8 k hk
      have := hNf5 k this; omega
  have hl3 : rd3.1.length ≤ l.length := by
    have := votesR_len me view rd2 []
    rw [hq3] at this
    simp only at *
    omega
  clear d9 hC5 hR5 xr5 hT6 hV6 hnd6 hnew6 hrf5 hNf5 hE5 hnp hl2
  obtain ⟨q4, hq4⟩ : ∃ q4, takeR 1 rd3 = q4 := ⟨_, rfl⟩
  obtain ⟨xk, rd4⟩ := q4
  obtain ⟨q5, hq5⟩ : ∃ q5, fourR rd4 = q5 := ⟨_, rfl⟩
  obtain ⟨lz, rd5⟩ := q5
  obtain ⟨L, hL⟩ : ∃ L : Nat, lz = (L : Int) := ⟨lz.toNat, by have := (fourR_range rd4).1; rw [hq5] at this; simp only at this; omega⟩
  subst hL
  have hL2 : L ≤ 4294967295 := by have := (fourR_range rd4).2.1; rw [hq5] at this; simp only at this; omega
  obtain ⟨q6, hq6⟩ : ∃ q6, takeR L rd5 = q6 := ⟨_, rfl⟩
  obtain ⟨xv, rd6, bad6⟩ := q6
  have hlk : xk.length ≤ 1 := by
    have : (takeR 1 rd3).1.length ≤ 1 := by unfold takeR; split <;> simp <;> omega
    rw [hq4] at this; exact this
  have hlv : xv.length ≤ l.length := by
    have h1 := (takeR_len 1 rd3).2
    have h2 := (fourR_range rd4).2.2
    have h3 := (takeR_len L rd5).1
    rw [hq4] at h1; rw [hq5] at h2; rw [hq6] at h3
    simp only at h1 h2 h3
    omega
  have hd6 : ∀ k ∈ foot b p F1' F2' F3, k ∉ [rb] := fun k hk hk2 => by simp only [List.mem_singleton] at hk2; subst hk2; exact hrf6 hk
  have hrl : ∀ x ∈ [rb], w.heap.size ≤ x := fun x hx => by simp only [List.mem_singleton] at hx; omega
  go_upto_region 9 with (go_at_call 68; refine (take_of rb rd3 1 w6 hR6 (by omega)).mono ?_; rintro e w7 ⟨ak, ck, rfl, hbk, hR7, hT7⟩; rw [hq4] at hbk hR7; rw [hq4])
  have hC7 := CoreIn.turn hC6 hT7 hR6.noByte hd6
  go_upto_region 10 with (first
    | (go_at_call 66; refine (rfour_of rb rd4 w7 hR7).mono ?_; rintro e w8 ⟨rfl, hR8, hT8⟩; rw [hq5] at hR8; rw [hq5])
    | (go_at_call 68; refine (take_of rb rd5 L w8 hR8 hL2).mono ?_; rintro e w9 ⟨av, cv, rfl, hbv, hR9, hT9⟩; rw [hq6] at hbv hR9; rw [hq6]
       have hC9 := CoreIn.turn (CoreIn.turn hC7 hT8 hR7.noByte hd6) hT9 hR8.noByte hd6
       have f16 := frozen_ofBlk (i := 16) hC9.blk
       have d16 := cell_ofBlk (i := 16) (v := .slice p.av 0 p.cv) hC9.blk rfl))
  obtain ⟨w10, hw10⟩ : ∃ w10, w9.setCell ⟨b, 16, none⟩ (.slice av xv.length cv) = w10 := ⟨_, rfl⟩
  have hT10 : Turn [b] w9 w10 := by rw [← hw10]; exact Turn.setCell w9 ⟨b, 16, none⟩ _
  have hb9 : NoByte w9 [b] := hC9.one foot_mem.1
  have hC10 : CoreIn fa w10 b { p with av := av, cv := cv } F1' F2' F3 { St.fresh n me slot with view := view, prepares := ps, commits := cs, value := xv } := by
    rw [← hw10] at hT10 ⊢
    exact hC9.upd (s' := { St.fresh n me slot with view := view, prepares := ps, commits := cs, value := xv }) (p' := { p with av := av, cv := cv }) hT10 (heap_setCell_blk hC9.blk 16 _) ⟨rfl, rfl, rfl, rfl, rfl, rfl⟩ ⟨rfl, rfl, rfl, rfl, rfl, rfl⟩
      (hC9.wish.turn hT10 hb9) (hC9.locked.turn hT10 hb9) (hbv.turn hT10 hb9)
  have hR10 : ReaderAt w10 rb (rd6, bad6) := hR9.turn hT10 hb9 hrb_b
  have hbk10 : BB w10 ak xk := ((hbk.turn hT8 hR7.noByte).turn hT9 hR8.noByte).turn hT10 hb9
  have hE10 : Ext w w10 := ((((hE6.turned hT7 hrl).turned hT8 hrl).turned hT9 hrl)).turned hT10 (fun k hk => by simp only [List.mem_singleton] at hk; subst hk; have := hNf6 k foot_mem.1; omega)
  have hpq : parse me l = ⟨view, ps, cs, xk, xv, bad6⟩ := by
    unfold parse
    simp only [hq1, hq2, hq3, hq4, hq5, Int.toNat_natCast, hq6]
  rw [hw10]
  clear f16 d16 hC9 hR9 hbv hw10 hT10 hb9 hT9 hR8 hT8 hC7 hR7 hbk hT7 hR6 hC6 hE6 hq1 hq2 hq3 hq4 hq5 hq6 xr6
  obtain ⟨ar, cr, xr, _, _⟩ := hR10.form
  have d1 := cell_ofBlk (i := 1) (v := .bool bad6) xr rfl
  have d4 := cell_ofBlk (i := 4) (v := .int .i64 view) hC10.blk rfl
  cases hwr : (parse me l).wrong with
  | true =>
    have hno : o = none := by rw [← ho]; unfold ofB; rw [if_pos hwr]
    subst hno
    rw [hpq] at hwr
    unfold Parsed.wrong at hwr
    simp only at hwr
    clear hok ho hpq
    cases bad6 with
    | true =>
      go_wp2_with fail
      go_ret2
      exact ⟨hE10, rfl⟩
    | false =>
      by_cases hvw : 1048576 < view
      · go_wp2_with fail
        go_ret2
        exact ⟨hE10, rfl⟩
      · cases xk with
        | nil =>
          clear hwr
          go_wp2_with fail
          go_ret2
          exact ⟨hE10, rfl⟩
        | cons x xs =>
          cases xs with
          | cons _ _ => simp at hlk
          | nil =>
            have hx1 : 1 < x.toNat := by simpa [hvw] using hwr
            obtain ⟨⟨pb, po, psp⟩, rfl⟩ : ∃ q, ak = some q := by
              cases ak with
              | none => cases hbk10
              | some q => exact ⟨q, rfl⟩
            obtain rfl : psp = none := hbk10.1
            have hkc := hbk10.bs.cell (i := 0) (by simp)
            simp only [List.getElem_cons_zero, byteV, Nat.add_zero] at hkc
            have hx2 : (1 : Int) < (x.toNat : Int) := by omega
            clear hwr hx1
            go_wp2_with fail
            go_ret2
            exact ⟨hE10, rfl⟩
  | false =>
    have hok' := hok hwr
    have hcore : (parse me l).core n me slot = Parsed.core ⟨view, ps, cs, xk, xv, bad6⟩ n me slot := by rw [hpq]
    have hoq : o = if (Parsed.core ⟨view, ps, cs, xk, xv, bad6⟩ n me slot).bytes = l then some (Parsed.core ⟨view, ps, cs, xk, xv, bad6⟩ n me slot) else none := by
      rw [← ho, ← hcore]
      unfold ofB
      rw [if_neg (by simp [hwr])]
    rw [hcore] at hok'
    rw [hpq] at hwr
    unfold Parsed.wrong at hwr
    simp only [Bool.or_eq_false_iff, decide_eq_false_iff_not] at hwr
    obtain ⟨⟨hw1, hw2⟩, hw3⟩ := hwr
    subst hw1
    clear hok ho hpq hcore
    obtain ⟨x, rfl⟩ : ∃ x, xk = [x] := by
      cases xk with
      | nil => simp at hw3
      | cons x xs => cases xs with
        | nil => exact ⟨x, rfl⟩
        | cons _ _ => simp at hlk
    have hx2 : ¬ (1 : Int) < (x.toNat : Int) := by simp at hw3; omega
    have hxd : (((x.toNat : Int)) == 1) = decide ([x] = [1]) := by
      rw [Bool.eq_iff_iff]
      simp only [beq_iff_eq, decide_eq_true_eq, List.cons.injEq, and_true]
      refine ⟨fun h => ?_, fun h => by subst h; rfl⟩
      have : x.toNat = 1 := by omega
      exact UInt8.toNat_inj.1 this
    obtain ⟨⟨pb, po, psp⟩, rfl⟩ : ∃ q, ak = some q := by
      cases ak with
      | none => cases hbk10
      | some q => exact ⟨q, rfl⟩
    obtain rfl : psp = none := hbk10.1
    have hkc := hbk10.bs.cell (i := 0) (by simp)
    simp only [List.getElem_cons_zero, byteV, Nat.add_zero] at hkc
    obtain ⟨db, hdb⟩ : ∃ db, decide ([x] = [1]) = db := ⟨_, rfl⟩
    rw [hdb] at hxd
    have f15 := frozen_ofBlk (i := 15) hC10.blk
    have d15 := cell_ofBlk (i := 15) (v := .bool false) hC10.blk rfl
    clear hw3 hbk10
    go_upto_region 13 with fail
    obtain ⟨w11, hw11⟩ : ∃ w11, w10.setCell ⟨b, 15, none⟩ (.bool db) = w11 := ⟨_, rfl⟩
    have hT11 : Turn [b] w10 w11 := by rw [← hw11]; exact Turn.setCell w10 ⟨b, 15, none⟩ _
    have hb10 : NoByte w10 [b] := hC10.one (p := { p with av := av, cv := cv }) foot_mem.1
    have hC11 : CoreIn fa w11 b { p with av := av, cv := cv } F1' F2' F3 { St.fresh n me slot with view := view, prepares := ps, commits := cs, value := xv, decided := db } := by
      rw [← hw11] at hT11 ⊢
      exact hC10.upd (s' := { St.fresh n me slot with view := view, prepares := ps, commits := cs, value := xv, decided := db }) (p' := { p with av := av, cv := cv }) hT11 (heap_setCell_blk hC10.blk 15 _) ⟨rfl, rfl, rfl, rfl, rfl, rfl⟩ ⟨rfl, rfl, rfl, rfl, rfl, rfl⟩
        (hC10.wish.turn hT11 hb10) (hC10.locked.turn hT11 hb10) (hC10.value.turn hT11 hb10)
    have hE11 : Ext w w11 := hE10.turned hT11 (fun k hk => by simp only [List.mem_singleton] at hk; subst hk; have := hNf6 k foot_mem.1; omega)
    have hbytes : BB w11 a l := hb.ext hE11
    rw [hw11]
    clear d1 d4 xr hkc f15 d15 hC10 hR10 hw11 hT11 hb10 hE10 hxd hx2 hrl hd6
    have hok2 := hok'.comms.length
    obtain ⟨es, hmc, hRc, hFc⟩ := hC11.comms
    have hesl : es.length ≤ 10000000 := by have := hRc.length; simp only [Parsed.core] at hok2; simp only at this; omega
    have d9 := cell_ofBlk (i := 9) (v := .map (some p.mc)) hC11.blk rfl
    have hb11 : b < w11.heap.size := hC11.lt b foot_mem.1
    go_wp2_with (first
      | (go_at_call 70; refine (keys_of _ _).mono ?_; rintro e wa ⟨rfl, rfl⟩)
      | (go_at_call 69; refine (sorted95 p.mc es w11 hmc hesl).mono ?_; rintro e ws ⟨ai, ci, rfl, hI, hEs, hnew⟩))
    have hEs' : Ext w11 ws := (ext_of_grown (World.grownBy_alloc w11 _ none)).trans hEs
    have hCs := hC11.ext hEs'
    have hkeys : es.map (·.1) = cs.map (·.1) := hRc.keys
    rw [hkeys] at hI
    have hkl : (isort (cs.map (·.1))).length = es.length := by rw [(isort_perm _).length_eq, ← hkeys]; simp
    have hnb : ∀ q, ai = some q → q.block ∉ [b] := fun q hq hm => by
      simp only [List.mem_singleton] at hm
      have := hnew q hq
      simp at this
      omega
    clear d9 hmc hRc hFc hEs hC11 hkeys
    go_loopw [91] (fun v91 wr => ∃ (i : Nat) (p2 : Ptr) (st : St), v91 = .int .i64 i ∧ i ≤ es.length ∧ p2.mc = p.mc ∧ CoreIn fa wr b p2 F1' F2' F3 st ∧ foot b p2 F1' F2' F3 = foot b p F1' F2' F3 ∧
        st = { St.fresh n me slot with view := view, prepares := ps, commits := cs, value := xv, decided := db, lock := (((isort (cs.map (·.1))).take i).foldl (fun _ v => (v, (at2 cs v me).getD [])) (-1, [])).1, locked := (((isort (cs.map (·.1))).take i).foldl (fun _ v => (v, (at2 cs v me).getD [])) (-1, [])).2 } ∧
        Ext w wr ∧ IS wr ai (isort (cs.map (·.1))))
      (fun v _ => es.length - (intOf v).toNat)
    case atStart => exact ⟨0, { p with av := av, cv := cv }, _, rfl, by omega, rfl, hCs, rfl, rfl, hE11.trans hEs', hI⟩
    case round =>
      obtain ⟨i, p2, st, rfl, hi, hpm, hCr, hft, hst, hEr, hIr⟩ := hrel
      clear hCs hI
      by_cases hlt : i < es.length
      · obtain ⟨pp, rfl⟩ : ∃ q, ai = some q := by
          cases ai with
          | none => have h0 : isort (cs.map (·.1)) = [] := hIr; rw [h0] at hkl; simp at hkl; omega
          | some q => exact ⟨q, rfl⟩
        obtain ⟨kb, ko, ksp⟩ := pp
        obtain rfl : ksp = none := hIr.1
        obtain ⟨k, hk⟩ : ∃ k, (isort (cs.map (·.1)))[i]? = some k := ⟨_, List.getElem?_eq_getElem (by omega)⟩
        have hcell := hIr.cell hk
        have hfold := foldl_last (f := fun v => (v, (at2 cs v me).getD [])) hk
        have hcm2 := hCr.comms
        rw [hst] at hcm2
        obtain ⟨r, al, cl, lk1, lk2, hbl⟩ := hcm2.look3 k me
        rw [hpm] at lk1
        have d9 := cell_ofBlk (i := 9) (v := .map (some p2.mc)) hCr.blk rfl
        rw [hpm] at d9
        have f13 := frozen_ofBlk (i := 13) hCr.blk
        have d13 := cell_ofBlk (i := 13) (v := .int .i64 st.lock) hCr.blk rfl
        obtain ⟨w13, hw13⟩ : ∃ w13, wr.setCell ⟨b, 13, none⟩ (.int .i64 k) = w13 := ⟨_, rfl⟩
        have x13 := heap_setCell_blk hCr.blk 13 (.int .i64 k)
        rw [hw13] at x13
        have f14 := frozen_ofBlk (i := 14) x13
        have d14 := cell_ofBlk (i := 14) (v := .slice p2.al st.locked.length p2.cl) x13 rfl
        go_wp2_with fail
        go_roundw
        case rel =>
          obtain ⟨w14, hw14⟩ : ∃ w14, w13.setCell ⟨b, 14, none⟩ (.slice al ((at2 cs k me).getD []).length cl) = w14 := ⟨_, rfl⟩
          rw [hw14]
          have hT : Turn [b] wr w14 := by
            rw [← hw14, ← hw13]
            exact (Turn.setCell wr ⟨b, 13, none⟩ _).trans (Turn.setCell _ ⟨b, 14, none⟩ _) (fun x hx => .inl hx)
          have hnbr : NoByte wr [b] := hCr.one foot_mem.1
          have x14 := heap_setCell_blk x13 14 (.slice al ((at2 cs k me).getD []).length cl)
          rw [hw14] at x14
          refine ⟨i + 1, { p2 with al := al, cl := cl }, { st with lock := k, locked := (at2 cs k me).getD [] }, by simp, by omega, hpm, ?_, hft, ?_, ?_, hIr.turn hT hnb⟩
          · exact hCr.upd (s' := { st with lock := k, locked := (at2 cs k me).getD [] }) (p' := { p2 with al := al, cl := cl }) hT x14 ⟨rfl, rfl, rfl, rfl, rfl, rfl⟩ ⟨rfl, rfl, rfl, rfl, rfl, rfl⟩ (hCr.wish.turn hT hnbr) (hbl.turn hT hnbr) (hCr.value.turn hT hnbr)
          · rw [hfold, hst]
          · exact hEr.turned hT (fun k hk => by simp only [List.mem_singleton] at hk; subst hk; have := hNf6 k foot_mem.1; omega)
        case measure => simp only [intOf]; omega
      · have hall : (isort (cs.map (·.1))).take i = isort (cs.map (·.1)) := List.take_of_length_le (by omega)
        rw [hall] at hst
        have hstc : st = Parsed.core ⟨view, ps, cs, [x], xv, false⟩ n me slot := by
          rw [hst]
          unfold Parsed.core lastOf
          simp only [hdb]
        rw [← hstc] at hok' hoq
        have hCt : CoreAt fa wr b (foot b p2 F1' F2' F3) st := ⟨p2, F1', F2', F3, rfl, hCr⟩
        have hbr := hb.ext hEr
        clear hst hstc
        obtain ⟨bs, hbs⟩ : ∃ bs, st.bytes = bs := ⟨_, rfl⟩
        rw [hbs] at hoq
        obtain ⟨eq, heq⟩ : ∃ eq, Hid (decide (bs = l) = eq) := ⟨_, rfl⟩
        have hoqH : Hid (o = if bs = l then some st else none) := hoq
        clear hoq
        go_wp2_with fail
        refine (hCt.bytes_of hok').mono ?_
        rintro e w15 ⟨v15, rfl, hO15, hE15, _⟩
        rw [hbs] at hO15
        obtain ⟨a15, c15, rfl, hb15, _, _⟩ := hO15.form
        cases eq with
        | true =>
          go_wp2_with fail
          refine (equal_any a15 a bs.length l.length c15 c bs l w15 rfl rfl hb15.bs (hbr.ext hE15).bs).mono ?_
          rintro e w16 ⟨rfl, hw16⟩
          rw [heq.out]
          go_wp2_with fail
          go_ret2
          subst hw16
          rw [hoqH.out, if_pos (of_decide_eq_true heq.out)]
          refine ⟨hEr.trans hE15, b, _, rfl, hCt.ext hE15, hok', fun k hk => ?_⟩
          rw [hft] at hk
          have := hNf6 k hk
          omega
        | false =>
          go_wp2_with fail
          refine (equal_any a15 a bs.length l.length c15 c bs l w15 rfl rfl hb15.bs (hbr.ext hE15).bs).mono ?_
          rintro e w16 ⟨rfl, hw16⟩
          rw [heq.out]
          go_wp2_with fail
          go_ret2
          subst hw16
          rw [hoqH.out, if_neg (of_decide_eq_false heq.out)]
          exact ⟨hEr.trans hE15, rfl⟩
end Go.Proofs.Ytiofkiaibcmdhaa
