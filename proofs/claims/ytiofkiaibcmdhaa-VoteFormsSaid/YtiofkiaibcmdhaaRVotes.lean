import Derived.Test.YtiofkiaibcmdhaaReader
namespace Go.Proofs.Ytiofkiaibcmdhaa
open Go Go.RowKit

/-- A core's own votes of a kind, as they are read. -/
def votesL (me cview : Int) : Nat → Int → Rd → List (Int × Told) → Rd × List (Int × Told)
  | 0, _, r, vs => (r, vs)
  | k + 1, last, r, vs =>
    let v := fourR r
    let l := fourR v.2
    let x := takeR l.1.toNat l.2
    if x.2.2 || decide (v.1 ≤ last) || decide (cview < v.1) then ((x.2.1, true), vs) else votesL me cview k v.1 x.2 (set2 vs v.1 me x.1)
def votesR (me cview : Int) (r : Rd) (vs : List (Int × Told)) : Rd × List (Int × Told) := votesL me cview (fourR r).1.toNat (-1) (fourR r).2 vs

theorem takeR_len (n : Nat) (r : Rd) : (takeR n r).1.length ≤ r.1.length ∧ (takeR n r).2.1.length ≤ r.1.length := by
  unfold takeR
  split <;> simp <;> omega
theorem fourR_range (r : Rd) : 0 ≤ (fourR r).1 ∧ (fourR r).1 < 4294967296 ∧ (fourR r).2.1.length ≤ r.1.length := by
  have h := numB_range (takeR 4 r).1
  have h2 := takeR_len 4 r
  have h3 : (takeR 4 r).1.length ≤ 4 := by unfold takeR; split <;> simp <;> omega
  unfold fourR
  exact ⟨h.1, h.2.1 h3, h2.2⟩

/-- What 'votes' leaves. -/
def RVPost (rb mm : Nat) (F : List Nat) (o : Rd × List (Int × Told)) (w : World) (e : Ending) (w' : World) : Prop :=
  e = .returned (.tuple #[]) ∧ ReaderAt w' rb o.1 ∧ Turn (rb :: mm :: F) w w' ∧ ∃ F', ViewsAt w' mm F' o.2 ∧ (mm :: F').Nodup ∧ ∀ k ∈ F', k ∈ F ∨ w.heap.size ≤ k

/-- set, where the view isn't there. -/
theorem set_fresh {w : World} {mm : Nat} {F : List Nat} {vs : List (Int × Told)} (hV : ViewsAt w mm F vs) (hnd : (mm :: F).Nodup) (view who : Int) (hnew : getV vs view = none) (a : Option Addr) (n c : Nat) (l : Bytes) (hn : l.length = n) (hb : BB w a l) (hlen : l.length ≤ 140737488355328) :
    Calls Try.prog 87 #[.map (some mm), .int .i64 view, .int .i64 who, .slice a n c] w fun e w' => e = .returned (.bool true) ∧ Turn (mm :: F) w w' ∧ ∃ F', ViewsAt w' mm F' (set2 vs view who l) ∧ (mm :: F').Nodup ∧ ∀ k ∈ F', k ∈ F ∨ w.heap.size ≤ k := by
  obtain ⟨es, hm, hR, rfl⟩ := hV
  refine (set_any mm es vs view who a n c l w hm hR hnd hn hb.bs (hb.bs.ne_map hm) hlen).mono ?_
  intro e w' hp
  have hat : at2 vs view who = none := by unfold at2; rw [hnew]; rfl
  unfold SetPost at hp
  rw [hat, if_neg (by simp)] at hp
  obtain ⟨rfl, hT, es', g1, g2, g3, g4⟩ := hp
  exact ⟨rfl, hT, _, ⟨es', g1, g2, rfl⟩, g3, g4⟩

theorem ViewsAt.form {w : World} {mm : Nat} {F : List Nat} {vs : List (Int × Told)} (h : ViewsAt w mm F vs) : ∃ es, w.heap[mm]? = some (mapObj es) ∧ RelL (ViewR w) es vs ∧ F = blocksOf es := h

theorem bad_fin {rb mm : Nat} {F F' : List Nat} {vv : List (Int × Told)} {w wr w4 : World} {ar : Option Addr} {cr : Nat} {rd3 : Bytes} {bad3 : Bool} (hTr : Turn (rb :: mm :: F) w wr) (hT14 : Turn [rb] wr w4) (hx4 : w4.heap[rb]? = some (.cells #[.slice ar rd3.length cr, .bool bad3] 126)) (hbb4 : BB w4 ar rd3)
    (hr5 : rd3.length ≤ cr ∧ cr ≤ maxLen) (hV4 : ViewsAt w4 mm F' vv) (hndr : (mm :: F').Nodup) (hnew : ∀ k ∈ F', k ∈ F ∨ w.heap.size ≤ k) (hmr : ∀ k ∈ mm :: F', k ≠ rb) :
    RVPost rb mm F ((rd3, true), vv) w (.returned (.tuple #[])) (w4.setCell ⟨rb, 1, none⟩ (.bool true)) := by
  have hT5 := Turn.setCell w4 ⟨rb, 1, none⟩ (.bool true)
  have hnr : NoByte w4 [rb] := ReaderAt.noByte (r := (rd3, bad3)) ⟨ar, cr, hx4, hbb4, hr5⟩
  refine ⟨rfl, ⟨ar, cr, heap_setCell_blk hx4 1 _, hbb4.turn hT5 hnr, hr5⟩, (hTr.trans hT14 (fun x hx => .inl (by simp at hx; simp [hx]))).trans hT5 (fun x hx => .inl (by simp at hx; simp [hx])), F', hV4.turn hT5 hnr (by simpa using hmr mm (by simp)) (fun r' hr' => by simpa using hmr r' (by simp [hr'])), hndr, hnew⟩

set_option maxRecDepth 100000 in
set_option maxHeartbeats 2000000 in
theorem rvotes_of (rb b mm : Nat) (F : List Nat) (vs : List (Int × Told)) (me cview : Int) (cs : Array Value) (r : Rd) (w : World) (hR : ReaderAt w rb r) (hb : w.heap[b]? = some (.cells cs 110)) (h1 : cs[1]? = some (.int .i64 me)) (h4 : cs[4]? = some (.int .i64 cview))
    (hV : ViewsAt w mm F vs) (hnd : (mm :: F).Nodup) (hk : ∀ v ∈ vs.map (·.1), v ≤ -1) (hlen : r.1.length ≤ 140737488355328) :
    Calls Try.prog 67 #[.pointer (some ⟨rb, 0, none⟩), .pointer (some ⟨b, 0, none⟩), .map (some mm)] w (RVPost rb mm F (votesR me cview r vs) w) := by
  obtain ⟨o, ho⟩ : ∃ o, votesR me cview r vs = o := ⟨_, rfl⟩
  rw [ho]
  have hfr := fourR_range r
  have hbr : b ≠ rb := by
    rintro rfl
    obtain ⟨a, c, h2, _⟩ := hR
    rw [hb] at h2
    injection h2 with h2
    injection h2 with _ h2 _
    exact absurd h2 (by decide)
  go_enter Try.func67, Try.ntmps67
  go_wp2_with (go_at_call 66; refine (rfour_of rb r w hR).mono ?_; rintro e w1 ⟨rfl, hR1, hT1⟩)
  obtain ⟨K, hK⟩ : ∃ K, (fourR r).1.toNat = K := ⟨_, rfl⟩
  obtain ⟨kz, hkz⟩ : ∃ kz : Int, (fourR r).1 = kz := ⟨_, rfl⟩
  have hKz : kz = (K : Int) := by omega
  have ho2 : votesL me cview K (-1) (fourR r).2 vs = o := by rw [← ho, ← hK]; rfl
  rw [hkz, hKz]
  have hmm_rb : ∀ k ∈ mm :: F, k ≠ rb := fun k hk e => by
    subst e
    obtain ⟨a, c, h2, _⟩ := hR
    exact absurd (hV.kind k hk _ _ _ h2) (by decide)
  have hmm_b : ∀ k ∈ mm :: F, k ≠ b := fun k hk e => by
    subst e
    obtain ⟨es, e1, e2, rfl⟩ := hV
    rcases List.mem_cons.1 hk with rfl | hk
    · rw [hb] at e1; simp [mapObj] at e1
    · obtain ⟨⟨i, v⟩, hmem, hbl⟩ := List.mem_filterMap.1 hk
      obtain ⟨j, hj⟩ := List.getElem?_of_mem hmem
      obtain ⟨x, _, r', hv, es', hr', _⟩ := e2.at hj
      simp only at hbl hv
      subst hv
      simp only [blockOf, Option.some.injEq] at hbl
      subst hbl
      rw [hb] at hr'
      simp [mapObj] at hr'
  have hV1 : ViewsAt w1 mm F vs := hV.turn hT1 hR.noByte (by simpa using hmm_rb mm (by simp)) (fun r' hr' => by simpa using hmm_rb r' (by simp [hr']))
  have hb1 : w1.heap[b]? = some (.cells cs 110) := hT1.block b (by simpa using hbr) _ hb
  go_loopw [6, 11] (fun v6 v11 wr => ∃ (i : Nat) (last : Int) (rr : Rd) (vv : List (Int × Told)) (F' : List Nat), v11 = .int .i64 i ∧ i ≤ K ∧ v6 = .int .i64 last ∧ votesL me cview (K - i) last rr vv = o ∧ ReaderAt wr rb rr ∧ Turn (rb :: mm :: F) w wr ∧ wr.heap[b]? = some (.cells cs 110) ∧
      ViewsAt wr mm F' vv ∧ (mm :: F').Nodup ∧ (∀ k ∈ F', k ∈ F ∨ w.heap.size ≤ k) ∧ (∀ v ∈ vv.map (·.1), v ≤ last) ∧ rr.1.length ≤ 140737488355328)
    (fun _ v _ => K - (intOf v).toNat)
  case atStart => exact ⟨0, -1, (fourR r).2, vs, F, rfl, by omega, rfl, ho2, hR1, hT1.mono (by simp), hb1, hV1, hnd, fun k hk => .inl hk, hk, by have := hfr.2.2; omega⟩
  case round =>
    obtain ⟨i, last, rr, vv, F', rfl, hi, rfl, hvo, hRr, hTr, hbr', hVr, hndr, hnew, hkr, hlr⟩ := hrel
    clear hR1 hV1 hb1 hT1 ho2
    by_cases hlt : i < K
    · obtain ⟨m, hm⟩ : ∃ m, K - i = m + 1 := ⟨K - i - 1, by omega⟩
      rw [hm] at hvo
      have tok1 : True := trivial
      have hmb : ∀ k ∈ mm :: F', k ≠ b := fun k hk e => by
        subst e
        obtain ⟨es, e1, e2, rfl⟩ := hVr
        rcases List.mem_cons.1 hk with rfl | hk
        · rw [hbr'] at e1; simp [mapObj] at e1
        · obtain ⟨⟨i, v⟩, hmem, hbl⟩ := List.mem_filterMap.1 hk
          obtain ⟨j, hj⟩ := List.getElem?_of_mem hmem
          obtain ⟨x, _, r', hv, es', hr', _⟩ := e2.at hj
          simp only at hbl hv
          subst hv
          simp only [blockOf, Option.some.injEq] at hbl
          subst hbl
          rw [hbr'] at hr'
          simp [mapObj] at hr'
      have hmr : ∀ k ∈ mm :: F', k ≠ rb := fun k hk e => by
        subst e
        obtain ⟨a, c, h2, _⟩ := hRr
        exact absurd (hVr.kind k hk _ _ _ h2) (by decide)
      obtain ⟨q1, hq1⟩ : ∃ q1, fourR rr = q1 := ⟨_, rfl⟩
      obtain ⟨q2, hq2⟩ : ∃ q2, fourR q1.2 = q2 := ⟨_, rfl⟩
      obtain ⟨N, hN⟩ : ∃ N : Nat, q2.1 = (N : Int) := ⟨q2.1.toNat, by have := (fourR_range q1.2).1; rw [hq2] at this; omega⟩
      have hN2 : N ≤ 4294967295 := by have := (fourR_range q1.2).2.1; rw [hq2] at this; omega
      obtain ⟨q3, hq3⟩ : ∃ q3, takeR N q2.2 = q3 := ⟨_, rfl⟩
      have hvr := fourR_range rr
      have hl1 := (fourR_range q1.2).2.2
      have hl2 := takeR_len N q2.2
      rw [hq1] at hvr
      rw [hq2] at hl1
      rw [hq3] at hl2
      unfold votesL at hvo
      simp only [hq1, hq2, hN, Int.toNat_natCast, hq3] at hvo
      obtain ⟨v1, rd1⟩ := q1
      obtain ⟨n2, rd2⟩ := q2
      obtain ⟨x, rd3, bad3⟩ := q3
      simp only at hN hq2 hq3 hvr hl1 hl2 hvo
      subst hN
      have hblt : b < wr.heap.size := (Array.getElem?_eq_some_iff.1 hbr').1
      go_wp2_with (first
        | (go_at_call 66; have _t := tok1; refine (rfour_of rb rr wr hRr).mono ?_; rintro e w2 ⟨rfl, hR2, hT2⟩; rw [hq1] at hR2; rw [hq1]; clear tok1)
        | (go_at_call 66; refine (rfour_of rb rd1 w2 hR2).mono ?_; rintro e w3 ⟨rfl, hR3, hT3⟩; rw [hq2] at hR3; rw [hq2])
        | (go_at_call 68; refine (take_of rb rd2 N w3 hR3 hN2).mono ?_; rintro e w4 ⟨ax, cx, rfl, hbx, hR4, hT4⟩; rw [hq3] at hbx hR4; rw [hq3]
           have hT14 : Turn [rb] wr w4 := (hT2.trans hT3 (fun x hx => .inl hx)).trans hT4 (fun x hx => .inl hx)
           have hb4 := hT14.block b (by simpa using hbr) _ hbr'
           obtain ⟨ar, cr, hx4, hbb4, hr5⟩ := hR4
           have d1 := cell_ofBlk (i := 1) (v := .bool bad3) hx4 rfl
           have g1 := frozen_ofBlk (i := 1) hx4
           have d4 := cell_ofBlk (i := 4) hb4 h4
           have e1 := cell_ofBlk (i := 1) hb4 h1
           have hV4 := hVr.turn hT14 hRr.noByte (by simpa using hmr mm (by simp)) (fun r' hr' => by simpa using hmr r' (by simp [hr'])))
        | (go_at_call 87
           have hgt : ¬ v1 ≤ last := by omega
           have hnv : getV vv v1 = none := getV_none.2 fun hmem => hgt (hkr v1 hmem)
           refine (set_fresh hV4 hndr v1 me hnv ax x.length cx x rfl hbx (by omega)).mono ?_
           rintro e w5 ⟨rfl, hT5, F5, hV5, hnd5, hnew5⟩))
      · (try simp only [Exit.inBlock, Exit.then])
        refine bodyPost_ret (results_none rfl _ _ _) rfl ?_
        have hov : o = ((rd3, true), vv) := by rw [← hvo, if_pos (by simp [*])]
        rw [hov]
        exact bad_fin hTr hT14 hx4 hbb4 hr5 hV4 hndr hnew hmr
      · (try simp only [Exit.inBlock, Exit.then])
        refine bodyPost_ret (results_none rfl _ _ _) rfl ?_
        have hov : o = ((rd3, true), vv) := by rw [← hvo, if_pos (by simp [*])]
        rw [hov]
        exact bad_fin hTr hT14 hx4 hbb4 hr5 hV4 hndr hnew hmr
      · go_roundw
        case rel =>
          have hb3 : bad3 = false := by cases bad3 <;> simp_all
          subst hb3
          have hgt : ¬ v1 ≤ last := by omega
          have hle : ¬ cview < v1 := by omega
          rw [if_neg (by simp [hgt, hle])] at hvo
          have hsz : w.heap.size ≤ wr.heap.size := hTr.size
          have hsz4 : wr.heap.size ≤ w4.heap.size := hT14.size
          have hnewF : ∀ k ∈ F5, k ∈ F ∨ w.heap.size ≤ k := fun k hk => by
            rcases hnew5 k hk with h6 | h6
            · exact hnew k h6
            · exact .inr (by omega)
          have hT45 : Turn (rb :: mm :: F') wr w5 := (hT14.mono (by simp)).trans hT5 (fun x hx => .inl (List.mem_cons_of_mem _ hx))
          have hTT : Turn (rb :: mm :: F) w w5 := hTr.trans hT45 (fun x hx => by
            rcases List.mem_cons.1 hx with rfl | hx
            · exact .inl (by simp)
            · rcases List.mem_cons.1 hx with rfl | hx
              · exact .inl (by simp)
              · rcases hnew x hx with h6 | h6
                · exact .inl (by simp [h6])
                · exact .inr h6)
          have hnb4 : NoByte w4 (mm :: F') := hV4.noByte
          refine ⟨i + 1, v1, (rd3, false), _, F5, by simp, by omega, rfl, ?_, ?_, hTT, ?_, hV5, hnd5, hnewF, ?_, ?_⟩
          · rw [show K - (i + 1) = m by omega]; exact hvo
          · exact ReaderAt.turn ⟨ar, cr, hx4, hbb4, hr5⟩ hT5 hnb4 (fun hm => hmr rb hm rfl)
          · refine hT5.block b (fun hm => ?_) _ hb4
            exact hmb b hm rfl
          · intro v hv
            unfold set2 at hv
            rw [setV_keys] at hv
            split at hv
            · have := hkr v hv; omega
            · rcases List.mem_append.1 hv with hv | hv
              · have := hkr v hv; omega
              · simp only [List.mem_singleton] at hv; omega
          · simp only; omega
        case measure => simp only [intOf]; omega
      · (try simp only [Exit.inBlock, Exit.then])
        refine bodyPost_ret (results_none rfl _ _ _) rfl ?_
        have hov : o = ((rd3, true), vv) := by rw [← hvo, if_pos (by simp [*])]
        rw [hov]
        exact bad_fin hTr hT14 hx4 hbb4 hr5 hV4 hndr hnew hmr
    · obtain rfl : i = K := by omega
      rw [Nat.sub_self] at hvo
      unfold votesL at hvo
      go_wp2_with fail
      go_end0
      rw [← hvo]
      exact ⟨rfl, hRr, hTr, F', hVr, hndr, hnew⟩
end Go.Proofs.Ytiofkiaibcmdhaa
