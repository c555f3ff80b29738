import Derived.Test.YtiofkiaibcmdhaaIter
import Derived.Test.YtiofkiaibcmdhaaShelf
import Derived.Test.YtiofkiaibcmdhaaW1
import Derived.Shelf.SlIterI.Sorted
import Derived.Shelf.SortM.SortNone
namespace Go.Proofs.Ytiofkiaibcmdhaa
open Go Go.RowKit Go.Maps Go.Sort Go.Shelf Go.Proofs

def leftAt (w : World) (it : Nat) : Nat := match w.heap[it]? with
  | some (.mapIter _ _ s n) => n - s.size
  | _ => 0

theorem IterAt.left {w : World} {r it : Nat} {es : List (Int × Value)} {seen : List Nat} (h : IterAt w r it es seen) : leftAt w it = es.length - seen.length := by
  unfold leftAt
  rw [h.iter]
  simp
theorem IterAt.walks {w w' : World} {r it : Nat} {es : List (Int × Value)} {seen : List Nat} (h : IterAt w r it es seen) (hk : KeepsWalks w w') : IterAt w' r it es seen :=
  ⟨hk.same _ _ h.map rfl, hk.same _ _ h.iter rfl, h.nodup, h.lt⟩
theorem IterAt.le {w : World} {r it : Nat} {es : List (Int × Value)} {seen : List Nat} (h : IterAt w r it es seen) : seen.length ≤ es.length := by
  have h1 : seen.Subset (List.range es.length) := fun i hi => List.mem_range.2 (h.lt i hi)
  have := h.nodup.length_le_of_subset h1
  simpa using this

/-- What has come: of the entries so numbered. -/
def came {α : Type} [Inhabited α] (es : List α) (seen : List Nat) : List α := seen.map fun i => es.getD i default

theorem came_perm {α : Type} [Inhabited α] {es : List α} {seen : List Nat} (hn : seen.Nodup) (hlt : ∀ i ∈ seen, i < es.length) (hall : ∀ i, i < es.length → i ∈ seen) : (came es seen).Perm es := by
  have h := (seen_perm hn hlt hall).map fun i => es.getD i default
  have e := map_getD_range es default id
  simp only [id] at e
  unfold came
  rw [e] at h
  simpa using h

theorem came_snoc {α : Type} [Inhabited α] {es : List α} {seen : List Nat} {i : Nat} {p : α} (h : es[i]? = some p) : came es (seen ++ [i]) = came es seen ++ [p] := by
  simp [came, List.getD, h]

set_option maxRecDepth 100000 in
set_option maxHeartbeats 1000000 in
theorem keys95 (n : Nat) (hn : 1 ≤ n) (l Bm r : Nat) (es : List (Int × Value)) (J : List Int → World → Prop)
    (hY : ∀ pre x W, J pre W → pre.length < es.length → YieldAt Fence.wide (n - 1) Try.prog l #[encZ x] W fun e W' => e = .returned (.bool true) ∧ J (pre ++ [x]) W' ∧ KeepsWalks W W')
    (W : World) (hJ : AbidesFrom W.heap.size J) (hm : W.cell? ⟨Bm, 0, none⟩ = some (.map (some r))) (hown : W.heap[r]? = some (mapObj es)) (h0 : J [] W) :
    CallsIn Fence.wide n Try.prog 95 #[.func (.yield l) #[] #[], .pointer (some ⟨Bm, 0, none⟩)] W fun e W' => (∃ v, e = .returned v) ∧ ∃ ss : List Int, ss.Perm (es.map (·.1)) ∧ J ss W' := by
  have hfw : Fence.wide.fn 95 := trivial
  have hro : Fence.wide.round = none := rfl
  refine callsIn_of_wp Try.func95 rfl trivial ?_ hro
  simp only [Try.ntmps95, List.size_toArray, List.length_cons, List.length_nil, Nat.reduceAdd, Nat.reduceSub, Array.replicate_succ, Array.replicate_zero, List.push_toArray, List.append_toArray, List.nil_append, List.cons_append]
  gi_wp2_with (first
    | (gi_at_range; refine wpListIn_range_obj rfl _ 105 rfl Try.underlying105 r es rfl hown ?_; intro w0 hI hg0 hs0)
    | gi_in)
  go_frame
  gi_loopw [3] (fun _ wr => ∃ (seen : List Nat), IterAt wr r W.heap.size es seen ∧ J ((came es seen).map (·.1)) wr)
    (fun _ wr => leftAt wr W.heap.size)
  case atStart =>
    exact ⟨[], hI, hJ [] W w0 none h0 hg0 (fun r e => by cases e)⟩
  case round =>
    obtain ⟨seen, hrg, hJs⟩ := hrel
    gi_wp2_with (first
      | (gi_at_next; refine wpListIn_next_obj rfl _ rfl r W.heap.size es seen rfl hrg ?_ ?_)
      | gi_in)
    · intro hall
      gi_wp2
      go_end0
      exact ⟨⟨_, rfl⟩, _, (came_perm hrg.nodup hrg.lt hall).map _, hJs⟩
    · intro i p1 p2 w2 hp hns hrg2 hg2 hs2 hen
      have hJ2 : J ((came es seen).map (·.1)) w2 := hJ _ wr w2 (some W.heap.size) hJs hg2 (fun r e => by cases e; exact ⟨Nat.le_refl _, _, hrg.iter, rfl⟩)
      have hle := hrg2.le
      obtain ⟨fn, tmps, assign, body, hy, hR⟩ := hY _ p1 w2 hJ2 (by simp [came] at hle ⊢; omega)
      clear hs2
      gi_wp2
      refine hR.mono ?_
      rintro e W3 ⟨rfl, hJ3, hk3⟩
      gi_wp2
      have hrg3 := hrg2.walks hk3
      go_roundw
      case rel => exact ⟨seen ++ [i], hrg3, by rw [came_snoc hp]; simpa using hJ3⟩
      case measure => rw [hrg3.left, hrg.left]; simp at hle ⊢; omega
set_option maxRecDepth 100000 in
set_option maxHeartbeats 1000000 in
theorem keys139 (n : Nat) (hn : 1 ≤ n) (l Bm r : Nat) (es : List (Int × Value)) (J : List Int → World → Prop)
    (hY : ∀ pre x W, J pre W → pre.length < es.length → YieldAt Fence.wide (n - 1) Try.prog l #[encZ x] W fun e W' => e = .returned (.bool true) ∧ J (pre ++ [x]) W' ∧ KeepsWalks W W')
    (W : World) (hJ : AbidesFrom W.heap.size J) (hm : W.cell? ⟨Bm, 0, none⟩ = some (.map (some r))) (hown : W.heap[r]? = some (mapObj es)) (h0 : J [] W) :
    CallsIn Fence.wide n Try.prog 139 #[.func (.yield l) #[] #[], .pointer (some ⟨Bm, 0, none⟩)] W fun e W' => (∃ v, e = .returned v) ∧ ∃ ss : List Int, ss.Perm (es.map (·.1)) ∧ J ss W' := by
  have hfw : Fence.wide.fn 139 := trivial
  have hro : Fence.wide.round = none := rfl
  refine callsIn_of_wp Try.func139 rfl trivial ?_ hro
  simp only [Try.ntmps139, List.size_toArray, List.length_cons, List.length_nil, Nat.reduceAdd, Nat.reduceSub, Array.replicate_succ, Array.replicate_zero, List.push_toArray, List.append_toArray, List.nil_append, List.cons_append]
  gi_wp2_with (first
    | (gi_at_range; refine wpListIn_range_obj rfl _ 108 rfl Try.underlying108 r es rfl hown ?_; intro w0 hI hg0 hs0)
    | gi_in)
  go_frame
  gi_loopw [3] (fun _ wr => ∃ (seen : List Nat), IterAt wr r W.heap.size es seen ∧ J ((came es seen).map (·.1)) wr)
    (fun _ wr => leftAt wr W.heap.size)
  case atStart =>
    exact ⟨[], hI, hJ [] W w0 none h0 hg0 (fun r e => by cases e)⟩
  case round =>
    obtain ⟨seen, hrg, hJs⟩ := hrel
    gi_wp2_with (first
      | (gi_at_next; refine wpListIn_next_obj rfl _ rfl r W.heap.size es seen rfl hrg ?_ ?_)
      | gi_in)
    · intro hall
      gi_wp2
      go_end0
      exact ⟨⟨_, rfl⟩, _, (came_perm hrg.nodup hrg.lt hall).map _, hJs⟩
    · intro i p1 p2 w2 hp hns hrg2 hg2 hs2 hen
      have hJ2 : J ((came es seen).map (·.1)) w2 := hJ _ wr w2 (some W.heap.size) hJs hg2 (fun r e => by cases e; exact ⟨Nat.le_refl _, _, hrg.iter, rfl⟩)
      have hle := hrg2.le
      obtain ⟨fn, tmps, assign, body, hy, hR⟩ := hY _ p1 w2 hJ2 (by simp [came] at hle ⊢; omega)
      clear hs2
      gi_wp2
      refine hR.mono ?_
      rintro e W3 ⟨rfl, hJ3, hk3⟩
      gi_wp2
      have hrg3 := hrg2.walks hk3
      go_roundw
      case rel => exact ⟨seen ++ [i], hrg3, by rw [came_snoc hp]; simpa using hJ3⟩
      case measure => rw [hrg3.left, hrg.left]; simp at hle ⊢; omega
set_option maxRecDepth 100000 in
set_option maxHeartbeats 1000000 in
theorem keys124 (n : Nat) (hn : 1 ≤ n) (l Bm r : Nat) (es : List (Int × Value)) (ns : List (Int × Int)) (hes : RelL IntR es ns) (J : List Int → World → Prop)
    (hY : ∀ pre x W, J pre W → pre.length < ns.length → YieldAt Fence.wide (n - 1) Try.prog l #[encZ x] W fun e W' => e = .returned (.bool true) ∧ J (pre ++ [x]) W' ∧ KeepsWalks W W')
    (W : World) (hJ : AbidesFrom W.heap.size J) (hm : W.cell? ⟨Bm, 0, none⟩ = some (.map (some r))) (hown : W.heap[r]? = some (mapObj es)) (h0 : J [] W) :
    CallsIn Fence.wide n Try.prog 124 #[.func (.yield l) #[] #[], .pointer (some ⟨Bm, 0, none⟩)] W fun e W' => (∃ v, e = .returned v) ∧ ∃ ss : List Int, ss.Perm (ns.map (·.2)) ∧ J ss W' := by
  have hfw : Fence.wide.fn 124 := trivial
  have hro : Fence.wide.round = none := rfl
  refine callsIn_of_wp Try.func124 rfl trivial ?_ hro
  simp only [Try.ntmps124, List.size_toArray, List.length_cons, List.length_nil, Nat.reduceAdd, Nat.reduceSub, Array.replicate_succ, Array.replicate_zero, List.push_toArray, List.append_toArray, List.nil_append, List.cons_append]
  gi_wp2_with (first
    | (gi_at_range; refine wpListIn_range_obj rfl _ 106 rfl Try.underlying106 r es rfl hown ?_; intro w0 hI hg0 hs0)
    | gi_in)
  go_frame
  gi_loopw [4] (fun _ wr => ∃ (seen : List Nat), IterAt wr r W.heap.size es seen ∧ J ((came ns seen).map (·.2)) wr)
    (fun _ wr => leftAt wr W.heap.size)
  case atStart =>
    exact ⟨[], hI, hJ [] W w0 none h0 hg0 (fun r e => by cases e)⟩
  case round =>
    obtain ⟨seen, hrg, hJs⟩ := hrel
    gi_wp2_with (first
      | (gi_at_next; refine wpListIn_next_obj rfl _ rfl r W.heap.size es seen rfl hrg ?_ ?_)
      | gi_in)
    · intro hall
      gi_wp2
      go_end0
      exact ⟨⟨_, rfl⟩, _, (came_perm (es := ns) hrg.nodup (by rw [← hes.length]; exact hrg.lt) (by rw [← hes.length]; exact hall)).map _, hJs⟩
    · intro i p1 p2 w2 hp hns hrg2 hg2 hs2 hen
      obtain ⟨q, hq, hq1, hq2⟩ : ∃ q, ns[i]? = some q ∧ q.1 = p1 ∧ .int .i64 q.2 = p2 := by
        obtain ⟨x, h1, h2⟩ := hes.at hp
        exact ⟨_, h1, rfl, h2.symm⟩
      subst hq1; subst hq2
      have hJ2 : J ((came ns seen).map (·.2)) w2 := hJ _ wr w2 (some W.heap.size) hJs hg2 (fun r e => by cases e; exact ⟨Nat.le_refl _, _, hrg.iter, rfl⟩)
      have hle := hrg2.le
      obtain ⟨fn, tmps, assign, body, hy, hR⟩ := hY _ q.2 w2 hJ2 (by have := hes.length; simp [came] at hle ⊢; omega)
      clear hs2
      gi_wp2
      refine hR.mono ?_
      rintro e W3 ⟨rfl, hJ3, hk3⟩
      gi_wp2
      have hrg3 := hrg2.walks hk3
      go_roundw
      case rel => exact ⟨seen ++ [i], hrg3, by rw [came_snoc hq]; simpa using hJ3⟩
      case measure => rw [hrg3.left, hrg.left]; simp at hle ⊢; omega
end Go.Proofs.Ytiofkiaibcmdhaa
