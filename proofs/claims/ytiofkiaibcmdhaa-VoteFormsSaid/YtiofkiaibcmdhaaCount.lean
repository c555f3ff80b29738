import Derived.Test.YtiofkiaibcmdhaaSorted
import Derived.Test.YtiofkiaibcmdhaaW2
namespace Go.Proofs.Ytiofkiaibcmdhaa
open Go Go.RowKit

theorem Ext.grown {w0 w1 w2 : World} {it : Nat} (h : Ext w0 w1) (hg : w1.grownBy w2 (some it)) (hi : w0.heap.size ≤ it) : Ext w0 w2 := by
  have hs := h.size
  obtain ⟨h1, h2, h3, h4, h5⟩ := hg
  refine ext_of_grown ⟨?_, ?_, ?_, by omega, fun k hk _ => ?_⟩
  · obtain ⟨x, rfl⟩ := h; exact h1
  · obtain ⟨x, rfl⟩ := h; exact h2
  · obtain ⟨x, rfl⟩ := h; exact h3
  · rw [h5 k (by omega) (fun e => by have e' : k = it := Option.some.inj e; omega)]
    obtain ⟨o, ho⟩ : ∃ o, w0.heap[k]? = some o := ⟨_, Array.getElem?_eq_getElem hk⟩
    rw [ho]
    exact h.heap ho

def majF (t : Told) (least : Int) (k : Int) : Option Bytes := match getV t k with
    | some v => if least ≤ occ t v then some v else none
    | none => none
theorem maj_eq (t : Told) (least : Int) : maj t least = (isort (t.map (·.1))).findSome? (majF t least) := rfl

theorem findSome_at {α β : Type} {l : List α} {f : α → Option β} {i : Nat} {x : α} (hx : l[i]? = some x) (h : (l.take i).findSome? f = none) :
    (∀ y, f x = some y → l.findSome? f = some y) ∧ (f x = none → (l.take (i + 1)).findSome? f = none) := by
  have hi : i < l.length := (List.getElem?_eq_some_iff.1 hx).1
  constructor
  · intro y hy
    have : l = l.take i ++ x :: l.drop (i + 1) := by
      have h2 := List.take_append_drop i l
      rw [List.drop_eq_getElem_cons hi] at h2
      rw [List.getElem?_eq_getElem hi] at hx
      cases hx
      exact h2.symm
    rw [this, List.findSome?_append, h]
    simp [hy]
  · intro hy
    rw [List.take_add_one, hx, List.findSome?_append, h]
    simp [hy]

/-- What 'count' hands back. -/
def CountPost (o : Option Bytes) (w : World) (e : Ending) (w' : World) : Prop :=
  Ext w w' ∧ match o with
    | some v => ∃ a c, e = .returned (.tuple #[.slice a v.length c, .bool true]) ∧ BB w' a v
    | none => e = .returned (.tuple #[.slice none 0 0, .bool false])

set_option maxRecDepth 10000000 in
set_option maxHeartbeats 100000000 in
theorem count_nil (least : Int) (w : World) : Calls Try.prog 112 #[.map none, .int .i64 least] w (CountPost none w) := by
  go_enter Try.func112, Try.ntmps112
  go_wp2_with (first
    | (go_at_call 126; refine (keysT_of _ _).mono ?_; rintro e w1 ⟨rfl, rfl⟩)
    | (go_at_call 69; refine (sorted139_nil w).mono ?_; rintro e w2 ⟨a, c, rfl, hI, hE, _⟩))
  simp only [isort] at *
  go_loopw [15] (fun v wr => v = .int .i64 0 ∧ Ext w wr) (fun _ _ => 0)
  case atStart => exact ⟨rfl, by exact (ext_of_grown (World.grownBy_alloc w _ none)).trans hE⟩
  case round =>
    obtain ⟨rfl, hEr⟩ := hrel
    go_wp2
    go_ret2
    exact ⟨hEr, rfl⟩

set_option maxRecDepth 10000000 in
set_option maxHeartbeats 100000000 in
theorem count_some (r : Nat) (t : Told) (least : Int) (w : World) (h : ToldAt w r t) (hlen : t.length ≤ 10000000) : Calls Try.prog 112 #[.map (some r), .int .i64 least] w (CountPost (maj t least) w) := by
  obtain ⟨es, hr, hR⟩ := h
  have hlr : es.length ≤ 10000000 := by rw [hR.length]; exact hlen
  go_enter Try.func112, Try.ntmps112
  go_wp2_with (first
    | (go_at_call 126; refine (keysT_of _ _).mono ?_; rintro e w1 ⟨rfl, rfl⟩)
    | (go_at_call 69; refine (sorted139 r es w hr hlr).mono ?_; rintro e ws ⟨a, c, rfl, hI, hE, _⟩))
  go_loopw [15] (fun v wr => ∃ i : Nat, v = .int .i64 i ∧ Ext ws wr ∧ i ≤ es.length ∧ ((isort (t.map (·.1))).take i).findSome? (majF t least) = none)
    (fun v _ => es.length - (match v with | .int _ n => n.toNat | _ => 0))
  case atStart => exact ⟨0, rfl, Ext.refl _, by omega, by simp⟩
  case round =>
    obtain ⟨i, rfl, hEr, hi, hnone⟩ := hrel
    rename World => wo
    have hkeys := hR.keys
    have hlk : (isort (es.map (·.1))).length = es.length := by rw [(isort_perm _).length_eq]; simp
    have hEw : Ext w wo := ((ext_of_grown (World.grownBy_alloc w _ none)).trans hE).trans hEr
    have hrw := hEw.heap hr
    by_cases hlt : i < es.length
    · obtain ⟨p, rfl⟩ : ∃ p, a = some p := by
        cases a with
        | none => have h0 : isort (es.map (·.1)) = [] := hI; rw [h0] at hlk; simp at hlk; omega
        | some p => exact ⟨p, rfl⟩
      obtain ⟨pb, po, ps⟩ := p
      obtain ⟨hps, cs, ce, cf, hpc, hpi⟩ := hI
      simp only at hps hpc hpi
      subst hps
      obtain ⟨k, hk⟩ : ∃ k, (isort (es.map (·.1)))[i]? = some k := ⟨_, List.getElem?_eq_getElem (by omega)⟩
      have hcell : wo.cell? ⟨pb, po + i, none⟩ = some (.int .i64 k) := by
        have h1 := hpi i (by omega)
        rw [List.getElem?_eq_getElem (by omega), Option.some.injEq] at hk
        rw [hk] at h1
        unfold World.cell?
        simp [hEr.heap hpc, h1]
      have hmem : k ∈ es.map (·.1) := (isort_perm _).mem_iff.1 (List.mem_of_getElem? hk)
      have hget : ∃ v x, getV es k = some v ∧ getV t k = some x ∧ ByteR w v x := by
        rcases hR.get k with ⟨g1, _⟩ | ⟨v, x, g1, g2, g3, _⟩
        · exact absurd hmem (getV_none.1 g1)
        · exact ⟨v, x, g1, g2, g3⟩
      obtain ⟨v, x, g1, g2, av, cv, rfl, hbv⟩ := hget
      have hfk : majF t least k = if least ≤ occ t x then some x else none := by simp [majF, g2]
      have hat := findSome_at (f := majF t least) (hkeys ▸ hk) hnone
      have q : ∀ W : World, W.heap[r]? = some (mapObj es) → Sem.run Try.prog (Instr.lookup 108 (.map (some r)) (.int .i64 k) false) W = .ok (.slice av x.length cv) W := fun W hW => by
        have := run_lookup_obj (P := Try.prog) false k Try.underlying108 Try.underlying3 (Try.zeroValue29 W) hW
        simpa [g1] using this
      clear hpi hnone hk hlk
      go_wp2_with (at_range; refine wpList_range_obj rfl _ 108 rfl Try.underlying108 r es rfl hrw ?_; intro w0 hI0 hE0 hs0)
      go_frame
      go_loopw [8] (fun v8 wl => ∃ seen, IterAt wl r wo.heap.size es seen ∧ Ext wo wl ∧ v8 = .int .i64 (occ (came t seen) x))
        (fun _ wl => leftAt wl wo.heap.size)
      case atStart => exact ⟨[], hI0, hE0, rfl⟩
      case round =>
        obtain ⟨seen, hIl, hEl, rfl⟩ := hrel
        have hocc : occ (came t seen) x ≤ 10000000 ∧ 0 ≤ occ (came t seen) x := by
          have h1 := hIl.le
          have h2 : (List.filter (fun p => decide (p.2 = x)) (came t seen)).length ≤ (came t seen).length := List.length_filter_le _ _
          have h3 : (came t seen).length = seen.length := by simp [came]
          unfold occ
          omega
        obtain ⟨o, ho⟩ : ∃ o, occ (came t seen) x = o := ⟨_, rfl⟩
        rw [ho] at hocc
        rw [ho]
        go_wp2_with (first
          | (at_next; refine wpList_next_obj rfl _ rfl r wo.heap.size es seen rfl hIl ?_ ?_)
          | fail)
        · intro hall
          have hocc2 : occ (came t seen) x = occ t x := by
            unfold occ
            rw [((came_perm (es := t) hIl.nodup (by rw [← hR.length]; exact hIl.lt) (by rw [← hR.length]; exact hall)).filter _).length_eq]
          have q1 := q wr hIl.map
          rw [hocc2] at ho
          subst ho
          clear hIl
          go_wp2
          · go_ret2
            rw [maj_eq, hat.1 x (by rw [hfk, if_pos (by assumption)])]
            exact ⟨hEw.trans hEl, av, cv, rfl, hbv.ext (hEw.trans hEl)⟩
          · go_roundw
            case rel => exact ⟨i + 1, by simp, hEr.trans hEl, by omega, hat.2 (by rw [hfk, if_neg (by omega)])⟩
            case measure => simp; omega
        · intro j p1 p2 w2 hp hns hI2 hg2 hs2 hen
          have hle2 := hI2.le
          have hE2 : Ext wo w2 := hEl.grown hg2 (Nat.le_refl _)
          obtain ⟨y, hy, ay, cy, rfl, hby⟩ := hR.at hp
          have q2 := q w2 hI2.map
          have hin := (List.getElem?_eq_some_iff.1 hp).1
          have hI3 : seen.length ≤ 10000000 := by simp at hle2; omega
          have bx := (hbv.ext (hEw.trans hE2)).bs
          have hby2 := (hby.ext (hEw.trans hE2)).bs
          have hstep : occ (came t (seen ++ [j])) x = occ (came t seen) x + if y = x then 1 else 0 := by
            rw [came_snoc hy]
            unfold occ
            rw [List.filter_append, List.length_append]
            by_cases hyx : y = x <;> simp [hyx]
          have hms : leftAt w2 wo.heap.size < leftAt wr wo.heap.size := by
            rw [hI2.left, hIl.left]
            simp at hle2 ⊢
            omega
          rw [ho] at hstep
          clear hIl hEl hg2 hp hns hle2 hs2
          go_wp2_with (go_at_call 71; refine (equal_any ay av _ _ _ _ y x w2 rfl rfl hby2 bx).mono ?_; rintro e w3 ⟨rfl, rfl⟩)
          · go_roundw
            case rel => exact ⟨seen ++ [j], hI2, hE2, by rw [hstep, if_pos (by assumption)]⟩
            case measure => exact hms
          · go_roundw
            case rel => exact ⟨seen ++ [j], hI2, hE2, by rw [hstep, if_neg (by assumption)]; simp⟩
            case measure => exact hms
    · go_wp2
      go_ret2
      have hn : maj t least = none := by
        rw [maj_eq, ← hkeys]
        rw [← hkeys, List.take_of_length_le (by omega)] at hnone
        exact hnone
      rw [hn]
      exact ⟨hEw, rfl⟩
end Go.Proofs.Ytiofkiaibcmdhaa
