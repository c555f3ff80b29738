import Derived.Test.YtiofkiaibcmdhaaNew
namespace Go.Proofs.Ytiofkiaibcmdhaa
open Go Go.RowKit

def hasMe (s : St) (p : Int × Told) : Bool := (getV p.2 s.me).isSome
def St.count (s : St) (m : List (Int × Told)) : Int := ((m.filter (hasMe s)).length : Nat)

theorem count_snoc {s : St} {vs : List (Int × Told)} {seen : List Nat} {i : Nat} {q : Int × Told} (h : vs[i]? = some q) : s.count (came vs (seen ++ [i])) = s.count (came vs seen) + if hasMe s q then 1 else 0 := by
  rw [came_snoc h]
  unfold St.count
  rw [List.filter_append, List.length_append]
  by_cases hq : hasMe s q = true <;> simp [hq]
theorem count_all {s : St} {vs : List (Int × Told)} {seen : List Nat} (hn : seen.Nodup) (hlt : ∀ i ∈ seen, i < vs.length) (hall : ∀ i, i < vs.length → i ∈ seen) : s.count (came vs seen) = s.count vs := by
  unfold St.count
  rw [((came_perm hn hlt hall).filter _).length_eq]
theorem count_le {s : St} {vs : List (Int × Told)} {seen : List Nat} (h : seen.length ≤ 10000000) : 0 ≤ s.count (came vs seen) ∧ s.count (came vs seen) ≤ 10000000 := by
  unfold St.count
  have h1 := List.length_filter_le (hasMe s) (came vs seen)
  have h2 : (came vs seen).length = seen.length := by simp [came]
  omega

section
variable {fa : Nat} {w : World} {b : Nat} {fp : List Nat} {s : St} {okf : Bytes → Bool}

set_option maxRecDepth 100000 in
set_option maxHeartbeats 2000000 in
theorem CoreAt.grown_of (h : CoreAt fa w b fp s) (ok : s.Ok) : Calls Try.prog 17 #[.pointer (some ⟨b, 0, none⟩)] w fun e w' => e = .returned (.agg #[.int .i64 s.view, .int .i64 (s.count s.prepares), .int .i64 (s.count s.commits)]) ∧ Ext w w' := by
  obtain ⟨p, F1, F2, F3, rfl, h⟩ := h
  obtain ⟨n0, hn0⟩ : ∃ n0, w.heap.size = n0 := ⟨_, rfl⟩
  obtain ⟨w1, hw1⟩ : ∃ w1, w.alloc (.cells #[.int .i64 0, .int .i64 0, .int .i64 0] 35) = w1 := ⟨_, rfl⟩
  obtain ⟨w2, hw2⟩ : ∃ w2, w1.alloc (.cells #[.int .i64 0, .int .i64 0, .int .i64 0] 35) = w2 := ⟨_, rfl⟩
  have e1 : Ext w w1 := by rw [← hw1]; exact ext_of_grown (World.grownBy_alloc w _ none)
  have d4 := cell_ofBlk (i := 4) (v := .int .i64 s.view) (h.ext e1).blk rfl
  have hn1 : w1.heap.size = n0 + 1 := by rw [← hw1, ← hn0]; simp
  have e2 : Ext w w2 := e1.trans (by rw [← hw2]; exact ext_of_grown (World.grownBy_alloc w1 _ none))
  have x2 : w2.heap[n0 + 1]? = some (.cells #[.int .i64 0, .int .i64 0, .int .i64 0] 35) := by rw [← hw2, ← hn1]; exact heap_alloc_new w1 _
  have xr : w2.heap[n0]? = some (.cells #[.int .i64 0, .int .i64 0, .int .i64 0] 35) := by
    rw [← hw2]
    exact (heap_alloc_old w1 _ (by omega)).trans (by rw [← hw1, ← hn0]; exact heap_alloc_new w _)
  have y0 := cell_ofBlk (i := 0) (v := .int .i64 0) x2 rfl
  have y1 := cell_ofBlk (i := 1) (v := .int .i64 0) x2 rfl
  have y2 := cell_ofBlk (i := 2) (v := .int .i64 0) x2 rfl
  have f0 := frozen_ofBlk (i := 0) x2
  have f1 := frozen_ofBlk (i := 1) x2
  have f2 := frozen_ofBlk (i := 2) x2
  obtain ⟨w3, hw3⟩ : ∃ w3, ((w2.setCell ⟨n0 + 1, 0, none⟩ (.int .i64 s.view)).setCell ⟨n0 + 1, 1, none⟩ (.int .i64 0)).setCell ⟨n0 + 1, 2, none⟩ (.int .i64 0) = w3 := ⟨_, rfl⟩
  have x3 : w3.heap[n0 + 1]? = some (.cells #[.int .i64 s.view, .int .i64 0, .int .i64 0] 35) := by rw [← hw3]; exact heap_setCell_blk (heap_setCell_blk (heap_setCell_blk x2 0 _) 1 _) 2 _
  have e3 : Ext w w3 := by rw [← hw3]; exact ((e2.set (by omega) _).set (by omega) _).set (by omega) _
  have xr3 : w3.heap[n0]? = some (.cells #[.int .i64 0, .int .i64 0, .int .i64 0] 35) := by
    rw [← hw3]
    rw [Below.heap_setCell _ _ _ _ (by simp), Below.heap_setCell _ _ _ _ (by simp), Below.heap_setCell _ _ _ _ (by simp)]
    exact xr
  have h3 := h.ext e3
  have d8 := cell_ofBlk (i := 8) (v := .map (some p.mpr)) h3.blk rfl
  obtain ⟨es, hm, hR, _⟩ := h.preps
  obtain ⟨es2, hm2, hR2, _⟩ := h.comms
  have hes : es.length ≤ 10000000 := by have := ok.preps.length; rw [hR.length]; omega
  have hes2 : es2.length ≤ 10000000 := by have := ok.comms.length; rw [hR2.length]; omega
  have hm3 := e3.heap hm
  go_enter Try.func17, Try.ntmps17
  go_wp2_with (at_range; refine wpList_range_obj rfl _ 105 rfl Try.underlying105 p.mpr es rfl hm3 ?_; intro u0 hI0 hE0 hs0)
  obtain ⟨it, ith⟩ : ∃ it, w3.heap.size = it := ⟨_, rfl⟩
  rw [ith] at hI0
  have hb1 : n0 + 1 < it := by have := (Array.getElem?_eq_some_iff.1 x3).1; omega
  rw [ith]
  go_frame
  go_loopw [] (fun wr => ∃ seen, IterAt wr p.mpr it es seen ∧ Ext w wr ∧ wr.heap[n0 + 1]? = some (.cells #[.int .i64 s.view, .int .i64 (s.count (came s.prepares seen)), .int .i64 0] 35) ∧ wr.heap[n0]? = some (.cells #[.int .i64 0, .int .i64 0, .int .i64 0] 35))
    (fun wr => leftAt wr it)
  case atStart => exact ⟨[], hI0, e3.trans hE0, hE0.heap x3, hE0.heap xr3⟩
  case round =>
    obtain ⟨seen, hI, hEr, hx, hxr⟩ := hrel
    have hr2 := h.ext hEr
    have d9 := cell_ofBlk (i := 9) (v := .map (some p.mc)) hr2.blk rfl
    have hm2r := hEr.heap hm2
    have hcl := count_le (s := s) (vs := s.prepares) (seen := seen) (by have := hI.le; omega)
    obtain ⟨cn, hcn⟩ : ∃ cn, s.count (came s.prepares seen) = cn := ⟨_, rfl⟩
    rw [hcn] at hx hcl
    clear d8 hm3 hI0 hE0 hs0
    rename World => wo
    go_wp2_with (first
      | (at_next; refine wpList_next_obj rfl _ rfl p.mpr it es seen rfl hI ?_ ?_)
      | (at_range; refine wpList_range_obj rfl _ 105 rfl Try.underlying105 p.mc es2 rfl hm2r ?_; intro u0 hI0 hE0 hs0))
    · intro hall
      have hct : cn = s.count s.prepares := by
        rw [← hcn]
        exact count_all hI.nodup (by rw [← hR.length]; exact hI.lt) (by rw [← hR.length]; exact hall)
      subst hct
      clear hcn
      go_wp2_with (first
        | (at_range; refine wpList_range_obj rfl _ 105 rfl Try.underlying105 p.mc es2 rfl hm2r ?_; intro u0 hI0 hE0 hs0))
      go_frame
      obtain ⟨it2, it2h⟩ : ∃ it2, wo.heap.size = it2 := ⟨_, rfl⟩
      rw [it2h] at hI0
      have hb2 : n0 + 1 < it2 := by have := (Array.getElem?_eq_some_iff.1 hx).1; omega
      rw [it2h]
      go_loopw [] (fun wr => ∃ seen2, IterAt wr p.mc it2 es2 seen2 ∧ Ext w wr ∧ wr.heap[n0 + 1]? = some (.cells #[.int .i64 s.view, .int .i64 (s.count s.prepares), .int .i64 (s.count (came s.commits seen2))] 35) ∧ wr.heap[n0]? = some (.cells #[.int .i64 0, .int .i64 0, .int .i64 0] 35))
        (fun wr => leftAt wr it2)
      case atStart => exact ⟨[], hI0, hEr.trans hE0, hE0.heap hx, hE0.heap hxr⟩
      case round =>
        obtain ⟨seen2, hI2c, hEc, hxc, hxrc⟩ := hrel
        have hcl2 := count_le (s := s) (vs := s.commits) (seen := seen2) (by have := hI2c.le; omega)
        obtain ⟨cm, hcm⟩ : ∃ cm, s.count (came s.commits seen2) = cm := ⟨_, rfl⟩
        rw [hcm] at hxc hcl2
        clear hI0 hE0 hs0
        have z0 := cell_ofBlk (i := 0) (v := .int .i64 s.view) hxc rfl
        have z1 := cell_ofBlk (i := 1) (v := .int .i64 (s.count s.prepares)) hxc rfl
        have z2 := cell_ofBlk (i := 2) (v := .int .i64 cm) hxc rfl
        have v0 := cell_ofBlk (i := 0) (v := .int .i64 0) hxrc rfl
        have v1 := cell_ofBlk (i := 1) (v := .int .i64 0) hxrc rfl
        have v2 := cell_ofBlk (i := 2) (v := .int .i64 0) hxrc rfl
        have g0 := frozen_ofBlk (i := 0) hxrc
        have g1 := frozen_ofBlk (i := 1) hxrc
        have g2 := frozen_ofBlk (i := 2) hxrc
        go_wp2_with (at_next; refine wpList_next_obj rfl _ rfl p.mc it2 es2 seen2 rfl hI2c ?_ ?_)
        · intro hall2
          have hct2 : cm = s.count s.commits := by
            rw [← hcm]
            exact count_all hI2c.nodup (by rw [← hR2.length]; exact hI2c.lt) (by rw [← hR2.length]; exact hall2)
          subst hct2
          go_wp2_with fail
          have r := heap_setCell_blk (heap_setCell_blk (heap_setCell_blk hxrc 0 (.int .i64 s.view)) 1 (.int .i64 (s.count s.prepares))) 2 (.int .i64 (s.count s.commits))
          have hEf : Ext w (((wr.setCell ⟨n0, 0, none⟩ (.int .i64 s.view)).setCell ⟨n0, 1, none⟩ (.int .i64 (s.count s.prepares))).setCell ⟨n0, 2, none⟩ (.int .i64 (s.count s.commits))) := ((hEc.set (by omega) _).set (by omega) _).set (by omega) _
          obtain ⟨W', hW'⟩ : ∃ W', ((wr.setCell ⟨n0, 0, none⟩ (.int .i64 s.view)).setCell ⟨n0, 1, none⟩ (.int .i64 (s.count s.prepares))).setCell ⟨n0, 2, none⟩ (.int .i64 (s.count s.commits)) = W' := ⟨_, rfl⟩
          rw [hW'] at r hEf ⊢
          have r0 := cell_ofBlk (i := 0) (v := .int .i64 s.view) r rfl
          have r1 := cell_ofBlk (i := 1) (v := .int .i64 (s.count s.prepares)) r rfl
          have r2 := cell_ofBlk (i := 2) (v := .int .i64 (s.count s.commits)) r rfl
          (try simp only [Exit.inBlock, Exit.then])
          refine bodyPost_ret_by (v := .agg #[.int .i64 s.view, .int .i64 (s.count s.prepares), .int .i64 (s.count s.commits)]) ?_ rfl ⟨rfl, hEf⟩
          simp [results, Try.f17, go_sem, r0, r1, r2]
        · clear z0 z1 z2 v0 v1 v2 g0 g1 g2
          intro i p1 p2 u2 hp hns hI2 hg2 hs2 hen
          have hE2 : Ext w u2 := hEc.grown hg2 (by rw [← it2h]; exact hEr.size)
          have hne : ∀ k, k ≠ it2 → ∀ o, wr.heap[k]? = some o → u2.heap[k]? = some o := fun k hk o ho => (hg2.block k (Array.getElem?_eq_some_iff.1 ho).1 (fun e => hk (by cases e; rfl))).trans ho
          have hx2 := hne (n0 + 1) (by omega) _ hxc
          have hxr2 := hne n0 (by omega) _ hxrc
          obtain ⟨t, ht, q, rfl, htd⟩ := hR2.at hp
          obtain ⟨al, nl, cl, bo, hlk, hcase⟩ := (htd.ext hE2).look s.me
          have hlk0 := at_zero (w := u2) (Q := fun W => Sem.run Try.prog (Instr.lookup 108 (.map (some q)) (.int .i64 s.me) true) W = .ok (.tuple #[.slice al nl cl, .bool bo]) W) hlk
          have hsn := count_snoc (s := s) (vs := s.commits) (seen := seen2) ht
          rw [hcm] at hsn
          have hp2 := h.ext hE2
          have d1 := cell_ofBlk (i := 1) (v := .int .i64 s.me) hp2.blk rfl
          have yc := cell_ofBlk (i := 2) (v := .int .i64 cm) hx2 rfl
          have yf := frozen_ofBlk (i := 2) hx2
          have hle2 := hI2.le
          have hms : leftAt u2 it2 < leftAt wr it2 := by
            rw [hI2.left, hI2c.left]
            simp at hle2 ⊢
            omega
          clear hI2c hle2 hlk hg2 hs2
          rcases hcase with ⟨rfl, hgt⟩ | ⟨lv, rfl, hgt, rfl, _⟩
          · have hq : hasMe s (p1, t) = false := by simp [hasMe, hgt]
            rw [hq] at hsn
            go_wp2_with fail
            go_roundw
            case rel => exact ⟨seen2 ++ [i], hI2, hE2, by rw [hsn]; simpa using hx2, hxr2⟩
            case measure => exact hms
          · have hq : hasMe s (p1, t) = true := by simp [hasMe, hgt]
            rw [hq] at hsn
            go_wp2_with fail
            go_roundw
            case rel =>
              have hset := heap_setCell_blk hx2 2 (.int .i64 (cm + 1))
              refine ⟨seen2 ++ [i], hI2.kept (Below.heap_setCell _ _ _ _ (by simp; intro e; have := hI2.map; rw [e] at this; rw [hx2] at this; simp [mapObj] at this)) (Below.heap_setCell _ _ _ _ (by simp; omega)), hE2.set (by omega) _, by rw [hsn]; exact hset, (Below.heap_setCell _ _ _ _ (by simp)).trans hxr2⟩
            case measure =>
              have hk : leftAt (u2.setCell ⟨n0 + 1, 2, none⟩ (.int .i64 (cm + 1))) it2 = leftAt u2 it2 := by
                unfold leftAt
                rw [Below.heap_setCell _ _ _ _ (by simp; omega)]
              rw [hk]
              exact hms
    · intro i p1 p2 u2 hp hns hI2 hg2 hs2 hen
      have hE2 : Ext w u2 := hEr.grown hg2 (by rw [← ith]; exact e3.size)
      have hne : ∀ k, k ≠ it → ∀ o, wo.heap[k]? = some o → u2.heap[k]? = some o := fun k hk o ho => (hg2.block k (Array.getElem?_eq_some_iff.1 ho).1 (fun e => hk (by cases e; rfl))).trans ho
      have hx2 := hne (n0 + 1) (by omega) _ hx
      have hxr2 := hne n0 (by omega) _ hxr
      obtain ⟨t, ht, q, rfl, htd⟩ := hR.at hp
      obtain ⟨al, nl, cl, bo, hlk, hcase⟩ := (htd.ext hE2).look s.me
      have hlk0 := at_zero (w := u2) (Q := fun W => Sem.run Try.prog (Instr.lookup 108 (.map (some q)) (.int .i64 s.me) true) W = .ok (.tuple #[.slice al nl cl, .bool bo]) W) hlk
      have hsn := count_snoc (s := s) (vs := s.prepares) (seen := seen) ht
      rw [hcn] at hsn
      have hp2 := h.ext hE2
      have d1 := cell_ofBlk (i := 1) (v := .int .i64 s.me) hp2.blk rfl
      have yc := cell_ofBlk (i := 1) (v := .int .i64 cn) hx2 rfl
      have yf := frozen_ofBlk (i := 1) hx2
      have hle2 := hI2.le
      have hms : leftAt u2 it < leftAt wo it := by
        rw [hI2.left, hI.left]
        simp at hle2 ⊢
        omega
      clear hI hle2 hlk d9 hg2 hs2
      rcases hcase with ⟨rfl, hgt⟩ | ⟨lv, rfl, hgt, rfl, _⟩
      · have hq : hasMe s (p1, t) = false := by simp [hasMe, hgt]
        rw [hq] at hsn
        go_wp2_with fail
        go_roundw
        case rel => exact ⟨seen ++ [i], hI2, hE2, by rw [hsn]; simpa using hx2, hxr2⟩
        case measure => exact hms
      · have hq : hasMe s (p1, t) = true := by simp [hasMe, hgt]
        rw [hq] at hsn
        go_wp2_with fail
        go_roundw
        case rel =>
          have hset := heap_setCell_blk hx2 1 (.int .i64 (cn + 1))
          refine ⟨seen ++ [i], hI2.kept (Below.heap_setCell _ _ _ _ (by simp; intro e; have := hI2.map; rw [e] at this; rw [hx2] at this; simp [mapObj] at this)) (Below.heap_setCell _ _ _ _ (by simp; omega)), hE2.set (by omega) _, by rw [hsn]; exact hset, (Below.heap_setCell _ _ _ _ (by simp)).trans hxr2⟩
        case measure =>
          have hk : leftAt (u2.setCell ⟨n0 + 1, 1, none⟩ (.int .i64 (cn + 1))) it = leftAt u2 it := by
            unfold leftAt
            rw [Below.heap_setCell _ _ _ _ (by simp; omega)]
          rw [hk]
          exact hms
end
end Go.Proofs.Ytiofkiaibcmdhaa
