import Derived.Test.YtiofkiaibcmdhaaKeys
import Derived.Shelf.SlIterI.Nil
namespace Go.Proofs.Ytiofkiaibcmdhaa
open Go Go.RowKit Go.Maps Go.Sort Go.Shelf Go.Proofs

theorem ext_of_below {w w' : World} (h : Below w.heap.size w w') : Ext w w' :=
  ext_of_grown ⟨h.os, h.tape, h.output, h.size, fun k hk _ => h.block k hk⟩

/-- Ints in a slice's array. -/
def IS (w : World) (a : Option Addr) (l : List Int) : Prop :=
  match a with
  | none => l = []
  | some p => p.spot = none ∧ ∃ cs e fz, w.heap[p.block]? = some (.cells cs e fz) ∧ ∀ (i : Nat) (h : i < l.length), cs[p.off + i]? = some (.int .i64 l[i])

theorem IS.ext {w w' : World} {a : Option Addr} {l : List Int} (h : IS w a l) (hE : Ext w w') : IS w' a l := by
  cases a with
  | none => exact h
  | some p =>
    obtain ⟨hs, cs, e, fz, h1, h2⟩ := h
    exact ⟨hs, cs, e, fz, hE.heap h1, h2⟩

/-- What slices.Sorted hands back. -/
def SortedPost (l : List Int) (w : World) (e : Ending) (w' : World) : Prop := ∃ a c, e = .returned (.slice a l.length c) ∧ IS w' a (isort l) ∧ Ext w w' ∧ ∀ p, a = some p → w.heap.size ≤ p.block

theorem ownsRow_form {w : World} {base : Nat} {v : Value} {l : List Int} {n : Nat} (h : w.ownsRow base 3 1 v n (l.map encZ)) (hn : l.length = n) : ∃ a c, v = .slice a n c ∧ IS w a l ∧ ∀ p, a = some p → base ≤ p.block := by
  obtain ⟨_, h2⟩ := h
  rcases h2 with ⟨rfl, h0⟩ | ⟨g, cap, cur, rfl, hb, hg, hn', hm, hs, ht⟩
  · subst hn
    obtain rfl : l = [] := List.eq_nil_of_length_eq_zero h0
    exact ⟨none, 0, rfl, rfl, fun p hp => by cases hp⟩
  · subst hn
    refine ⟨some ⟨g, 0, none⟩, cap, rfl, ⟨rfl, cur, 3, (0, 0), hg, fun i hi => ?_⟩, fun p hp => by cases hp; exact hb⟩
    have h3 : (l.map encZ)[i]? = some (encZ l[i]) := by simp [hi]
    rw [← ht, List.getElem?_take] at h3
    split at h3
    · simpa [encZ] using h3
    · cases h3

theorem sortsT (m : Nat) : AnyZI.SortsIn Try.prog Try.sortedA_ren Fence.wide m :=
  ⟨fun blk off cap ss W hH hblk hsz => callsIn_wide.2 (AnyM.slices_Sort_int Try.sortA blk off cap ss W hH hblk hsz),
   fun p cap W => callsIn_wide.2 (AnyM.slices_Sort_int_none Try.sortA p cap W)⟩

/-- slices.Sorted of an iterator whose ints are these, in whatever order. -/
theorem sorted_of (g Bm : Nat) (l : List Int) (w : World) (eg : ∀ args w, (callFunc g args).run Try.prog w = .ok (.enter g args) w) (hlen : l.length ≤ 10000000)
    (hseq : SeqGives Fence.wide 2 Try.prog g #[.pointer (some ⟨Bm, 0, none⟩)] encZ (fun ss => ss.Perm l) l.length w) :
    Calls Try.prog 69 #[.func (.func g) #[] #[.pointer (some ⟨Bm, 0, none⟩)]] w (SortedPost l w) := by
  refine (callsIn_wide (n := 5)).1 ?_
  have cS := AnyZI.sorted_in Try.sortedA Fence.wide 5 trivial trivial trivial trivial rfl (by omega) (sortsT _) (enters_of Try.func94 (by kernel_rfl) rfl) g #[.pointer (some ⟨Bm, 0, none⟩)] trivial eg _ _ (Nat.le_trans hlen (by decide)) (by omega) _ hseq
  change CallsIn _ _ Try.prog 69 _ _ _ at cS
  refine cS.mono ?_
  rintro e w' ⟨v, ss, rfl, hp, hrow, hnil, hb⟩
  rw [mergeSort_isort, isort_of_perm hp] at hrow
  change w'.ownsRow w.heap.size 3 1 v ss.length ((isort l).map encZ) at hrow
  rw [hp.length_eq] at hrow
  obtain ⟨a, c, rfl, h1, h2⟩ := ownsRow_form hrow (isort_perm l).length_eq
  exact ⟨a, c, rfl, h1, ext_of_below hb, h2⟩

theorem box_cell (w : World) (r : Option Nat) (t : TypeId) : (w.alloc (.cells #[.map r] t)).cell? ⟨w.heap.size, 0, none⟩ = some (.map r) := by
  simp

theorem gives95 (r : Nat) (es : List (Int × Value)) (w : World) (hr : w.heap[r]? = some (mapObj es)) :
    SeqGives Fence.wide 2 Try.prog 95 #[.pointer (some ⟨w.heap.size, 0, none⟩)] encZ (fun ss => ss.Perm (es.map (·.1))) (es.map (·.1)).length (w.alloc (.cells #[.map (some r)] 105)) := fun l J W hW hJ hY h0 => by
  have hlt := (Array.getElem?_eq_some_iff.1 hr).1
  refine keys95 2 (by omega) l w.heap.size r es J (by simpa using hY) W hJ ?_ ?_ h0
  · exact (hW.cell (p := ⟨w.heap.size, 0, none⟩) (by simp)).trans (box_cell w _ _)
  · exact (hW.block r (by simp; omega)).trans ((Below.heap_alloc _ _ r hlt).trans hr)

theorem gives139 (r : Nat) (es : List (Int × Value)) (w : World) (hr : w.heap[r]? = some (mapObj es)) :
    SeqGives Fence.wide 2 Try.prog 139 #[.pointer (some ⟨w.heap.size, 0, none⟩)] encZ (fun ss => ss.Perm (es.map (·.1))) (es.map (·.1)).length (w.alloc (.cells #[.map (some r)] 108)) := fun l J W hW hJ hY h0 => by
  have hlt := (Array.getElem?_eq_some_iff.1 hr).1
  refine keys139 2 (by omega) l w.heap.size r es J (by simpa using hY) W hJ ?_ ?_ h0
  · exact (hW.cell (p := ⟨w.heap.size, 0, none⟩) (by simp)).trans (box_cell w _ _)
  · exact (hW.block r (by simp; omega)).trans ((Below.heap_alloc _ _ r hlt).trans hr)

theorem gives124 (r : Nat) (es : List (Int × Value)) (ns : List (Int × Int)) (w : World) (hes : RelL IntR es ns) (hr : w.heap[r]? = some (mapObj es)) :
    SeqGives Fence.wide 2 Try.prog 124 #[.pointer (some ⟨w.heap.size, 0, none⟩)] encZ (fun ss => ss.Perm (ns.map (·.2))) (ns.map (·.2)).length (w.alloc (.cells #[.map (some r)] 106)) := fun l J W hW hJ hY h0 => by
  have hlt := (Array.getElem?_eq_some_iff.1 hr).1
  refine keys124 2 (by omega) l w.heap.size r es ns hes J (by simpa using hY) W hJ ?_ ?_ h0
  · exact (hW.cell (p := ⟨w.heap.size, 0, none⟩) (by simp)).trans (box_cell w _ _)
  · exact (hW.block r (by simp; omega)).trans ((Below.heap_alloc _ _ r hlt).trans hr)

set_option maxHeartbeats 400000 in
theorem keys_of (r : Option Nat) (w : World) : Calls Try.prog 70 #[.map r] w fun e w' => e = .returned (.func (.func 95) #[] #[.pointer (some ⟨w.heap.size, 0, none⟩)]) ∧ w' = w.alloc (.cells #[.map r] 105) := by
  go_enter Try.func70, Try.ntmps70
  go_wp2
  go_ret
  exact ⟨rfl, rfl⟩
set_option maxHeartbeats 400000 in
theorem keysT_of (r : Option Nat) (w : World) : Calls Try.prog 126 #[.map r] w fun e w' => e = .returned (.func (.func 139) #[] #[.pointer (some ⟨w.heap.size, 0, none⟩)]) ∧ w' = w.alloc (.cells #[.map r] 108) := by
  go_enter Try.func126, Try.ntmps126
  go_wp2
  go_ret
  exact ⟨rfl, rfl⟩
set_option maxHeartbeats 400000 in
theorem values_of (r : Option Nat) (w : World) : Calls Try.prog 108 #[.map r] w fun e w' => e = .returned (.func (.func 124) #[] #[.pointer (some ⟨w.heap.size, 0, none⟩)]) ∧ w' = w.alloc (.cells #[.map r] 106) := by
  go_enter Try.func108, Try.ntmps108
  go_wp2
  go_ret
  exact ⟨rfl, rfl⟩

/-- What slices.Sorted finds behind maps.Keys of a map of views. -/
theorem sorted95 (r : Nat) (es : List (Int × Value)) (w : World) (hr : w.heap[r]? = some (mapObj es)) (hlen : es.length ≤ 10000000) :
    Calls Try.prog 69 #[.func (.func 95) #[] #[.pointer (some ⟨w.heap.size, 0, none⟩)]] (w.alloc (.cells #[.map (some r)] 105)) (SortedPost (es.map (·.1)) (w.alloc (.cells #[.map (some r)] 105))) :=
  sorted_of 95 w.heap.size _ _ (enters_of Try.func95 (by kernel_rfl) rfl) (by simpa using hlen) (gives95 r es w hr)
theorem sorted139 (r : Nat) (es : List (Int × Value)) (w : World) (hr : w.heap[r]? = some (mapObj es)) (hlen : es.length ≤ 10000000) :
    Calls Try.prog 69 #[.func (.func 139) #[] #[.pointer (some ⟨w.heap.size, 0, none⟩)]] (w.alloc (.cells #[.map (some r)] 108)) (SortedPost (es.map (·.1)) (w.alloc (.cells #[.map (some r)] 108))) :=
  sorted_of 139 w.heap.size _ _ (enters_of Try.func139 (by kernel_rfl) rfl) (by simpa using hlen) (gives139 r es w hr)
theorem sorted124 (r : Nat) (es : List (Int × Value)) (ns : List (Int × Int)) (w : World) (hes : RelL IntR es ns) (hr : w.heap[r]? = some (mapObj es)) (hlen : ns.length ≤ 10000000) :
    Calls Try.prog 69 #[.func (.func 124) #[] #[.pointer (some ⟨w.heap.size, 0, none⟩)]] (w.alloc (.cells #[.map (some r)] 106)) (SortedPost (ns.map (·.2)) (w.alloc (.cells #[.map (some r)] 106))) :=
  sorted_of 124 w.heap.size _ _ (enters_of Try.func124 (by kernel_rfl) rfl) (by simpa using hlen) (gives124 r es ns w hes hr)
set_option maxRecDepth 10000000 in
set_option maxHeartbeats 100000000 in
theorem keys139_nil (n : Nat) (l Bm : Nat) (J : List Int → World → Prop) (W : World) (hJ : AbidesFrom W.heap.size J)
    (hm : W.cell? ⟨Bm, 0, none⟩ = some (.map none)) (h0 : J [] W) :
    CallsIn Fence.wide n Try.prog 139 #[.func (.yield l) #[] #[], .pointer (some ⟨Bm, 0, none⟩)] W fun e W' => (∃ v, e = .returned v) ∧ ∃ ss : List Int, ss.Perm [] ∧ J ss W' := by
  refine callsIn_of_wp Try.func139 rfl trivial ?_ rfl
  simp only [Try.ntmps139, List.size_toArray, List.length_cons, List.length_nil, Nat.reduceAdd, Nat.reduceSub, Array.replicate_succ, Array.replicate_zero, List.push_toArray, List.append_toArray, List.nil_append, List.cons_append]
  have hrg := run_range_nilMap (P := Try.prog) W 108 3 29 Try.underlying108
  have hnx : ∀ ty, (Instr.next (.pointer (some ⟨W.heap.size, 0, none⟩)) false ty).run Try.prog (W.alloc (.mapIter none 0 #[] 0)) = _ := fun ty => run_next_nilMap _ ty 0 0 #[]
  gi_wp2
  refine wpIn_loop_rounds 1 ?_
  rw [roundsIn_succ]
  gi_wp2
  go_end0
  exact ⟨⟨_, rfl⟩, [], List.Perm.refl _, hJ [] W _ none h0 (World.grownBy_alloc W _ none) (fun r e => by cases e)⟩

theorem gives139_nil (w : World) :
    SeqGives Fence.wide 2 Try.prog 139 #[.pointer (some ⟨w.heap.size, 0, none⟩)] encZ (fun ss => ss.Perm ([] : List Int)) ([] : List Int).length (w.alloc (.cells #[.map none] 108)) := fun l J W hW hJ hY h0 => by
  refine keys139_nil 2 l w.heap.size J W hJ ?_ h0
  exact (hW.cell (p := ⟨w.heap.size, 0, none⟩) (by simp)).trans (box_cell w _ _)

theorem sorted139_nil (w : World) :
    Calls Try.prog 69 #[.func (.func 139) #[] #[.pointer (some ⟨w.heap.size, 0, none⟩)]] (w.alloc (.cells #[.map none] 108)) (SortedPost [] (w.alloc (.cells #[.map none] 108))) :=
  sorted_of 139 w.heap.size _ _ (enters_of Try.func139 (by kernel_rfl) rfl) (by simp) (gives139_nil w)
end Go.Proofs.Ytiofkiaibcmdhaa
