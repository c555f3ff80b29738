import Derived.Test.YtiofkiaibcmdhaaBytes
import Derived.Test.YtiofkiaibcmdhaaSegT
import Derived.Test.YtiofkiaibcmdhaaSafe2
namespace Go.Proofs.Ytiofkiaibcmdhaa
open Go Go.RowKit

/-- Of these blocks those that hold cells hold a core's. -/
def Kinds (w : World) (S : List Nat) : Prop := ∀ k ∈ S, ∀ cs t fz, w.heap[k]? = some (.cells cs t fz) → t = 110

theorem ViewsAt.kind {w : World} {m : Nat} {F : List Nat} {vs : List (Int × Told)} (h : ViewsAt w m F vs) : Kinds w (m :: F) := by
  obtain ⟨es, h1, h2, rfl⟩ := h
  intro k hk cs t fz hc
  rcases List.mem_cons.1 hk with rfl | hk
  · rw [h1] at hc; simp [mapObj] at hc
  · obtain ⟨⟨i, v⟩, hmem, hb⟩ := List.mem_filterMap.1 hk
    obtain ⟨j, hj⟩ := List.getElem?_of_mem hmem
    obtain ⟨x, _, r, hv, es', hr, _⟩ := h2.at hj
    simp only at hb hv
    subst hv
    simp only [blockOf, Option.some.injEq] at hb
    subst hb
    rw [hr] at hc
    simp [mapObj] at hc

theorem CoreAt.kinds {fa : Nat} {w : World} {b : Nat} {fp : List Nat} {s : St} (h : CoreAt fa w b fp s) : Kinds w fp := by
  obtain ⟨p, F1, F2, F3, rfl, h⟩ := h
  intro k hk cs t fz hc
  obtain ⟨es1, e1, _⟩ := h.props
  obtain ⟨es2, e2, _⟩ := h.seen
  obtain ⟨es3, e3, _⟩ := h.decs
  have n1 := h.preps.kind
  have n2 := h.comms.kind
  have n3 := h.turns.kind
  simp only [foot, List.mem_append, List.mem_cons, List.not_mem_nil, or_false] at hk
  rcases hk with (rfl | rfl | rfl | rfl | rfl | rfl | rfl) | hk | hk | hk
  · rw [h.blk] at hc; injection hc with hc; injection hc with _ hc _; exact hc.symm
  · rw [e1] at hc; simp [mapObj] at hc
  · exact n1 _ (List.mem_cons_self ..) _ _ _ hc
  · exact n2 _ (List.mem_cons_self ..) _ _ _ hc
  · exact n3 _ (List.mem_cons_self ..) _ _ _ hc
  · rw [e2] at hc; simp [mapObj] at hc
  · rw [e3] at hc; simp [mapObj] at hc
  · exact n1 _ (List.mem_cons_of_mem _ hk) _ _ _ hc
  · exact n2 _ (List.mem_cons_of_mem _ hk) _ _ _ hc
  · exact n3 _ (List.mem_cons_of_mem _ hk) _ _ _ hc

theorem Turn.cells {S : List Nat} {w w' : World} (hT : Turn S w w') (hk : Kinds w S) {g : Nat} {cs : Array Value} {t : TypeId} {fz : Nat × Nat} (h : w.heap[g]? = some (.cells cs t fz)) (ht : t ≠ 110) : w'.heap[g]? = some (.cells cs t fz) :=
  hT.block g (fun hg => ht (hk g hg cs t fz h)) _ h

theorem BB.turnK {S : List Nat} {w w' : World} {a : Option Addr} {l : List UInt8} (h : BB w a l) (hT : Turn S w w') (hk : Kinds w S) : BB w' a l := by
  cases a with
  | none => exact h
  | some p =>
    obtain ⟨hs, cs, fz, h1, h2⟩ := h
    exact ⟨hs, cs, fz, hT.cells hk h1 (by decide), h2⟩
theorem rowK {S : List Nat} {w w' : World} {base : Nat} {e : TypeId} {size : Nat} {v : Value} {n : Nat} {xs : List Value} (h : w.ownsRow base e size v n xs) (he : e ≠ 110) (hT : Turn S w w') (hk : Kinds w S) : w'.ownsRow base e size v n xs := by
  refine ⟨h.1, ?_⟩
  rcases h.2 with h2 | ⟨g, cap, cur, hv, hg, hh, r⟩
  · exact .inl h2
  · exact .inr ⟨g, cap, cur, hv, hg, hT.cells hk hh he, r⟩
theorem rowE {w w' : World} {base : Nat} {e : TypeId} {size : Nat} {v : Value} {n : Nat} {xs : List Value} (h : w.ownsRow base e size v n xs) (hE : Ext w w') : w'.ownsRow base e size v n xs := by
  refine ⟨h.1, ?_⟩
  rcases h.2 with h2 | ⟨g, cap, cur, hv, hg, hh, r⟩
  · exact .inl h2
  · exact .inr ⟨g, cap, cur, hv, hg, hE.heap hh, r⟩
theorem OV.turnK {S : List Nat} {w w' : World} {base : Nat} {v : Value} {l : List Sent} (h : OV w base v l) (hT : Turn S w w') (hk : Kinds w S) : OV w' base v l :=
  ⟨rowK h.row (by decide) hT hk, fun x hx => (h.vals x hx).turnK hT hk, h.loc⟩
theorem Ext.turned {w w1 w2 : World} {S : List Nat} (h : Ext w w1) (hT : Turn S w1 w2) (hS : ∀ k ∈ S, w.heap.size ≤ k) : Ext w w2 := by
  have ht := h.turn []
  refine ext_of_grown ⟨hT.os.trans ht.os, hT.tape.trans ht.tape, hT.output.trans ht.output, Nat.le_trans h.size hT.size, fun k hk _ => ?_⟩
  obtain ⟨o, ho⟩ : ∃ o, w.heap[k]? = some o := ⟨_, Array.getElem?_eq_getElem hk⟩
  rw [ho]
  exact hT.block k (fun hx => by have := hS k hx; omega) o (h.heap ho)

/-- A core, and where it lies. -/
structure Cr where
  b : Nat
  fp : List Nat
  s : St

/-- Cores apart from one another, all of whose blocks lie at or beyond N. -/
structure Team (fa N : Nat) (w : World) (cs : List Cr) : Prop where
  each : ∀ (i : Nat) c, cs[i]? = some c → CoreAt fa w c.b c.fp c.s ∧ c.s.Ok
  apart : ∀ (i j : Nat) c d, i ≠ j → cs[i]? = some c → cs[j]? = some d → ∀ k ∈ c.fp, k ∉ d.fp
  low : ∀ (i : Nat) c, cs[i]? = some c → ∀ k ∈ c.fp, N ≤ k

section
variable {fa N : Nat} {w w' : World} {cs : List Cr}

theorem Team.nil : Team fa N w [] := ⟨fun i c h => by simp at h, fun i j c d _ h => by simp at h, fun i c h => by simp at h⟩
theorem Team.ext (h : Team fa N w cs) (hE : Ext w w') : Team fa N w' cs := ⟨fun i c hc => ⟨(h.each i c hc).1.ext hE, (h.each i c hc).2⟩, h.apart, h.low⟩
theorem Team.push (h : Team fa N w cs) (hE : Ext w w') {c : Cr} (hc : CoreAt fa w' c.b c.fp c.s) (ok : c.s.Ok) (hN : N ≤ w.heap.size) (hfp : ∀ k ∈ c.fp, w.heap.size ≤ k) : Team fa N w' (cs ++ [c]) := by
  have h2 := h.ext hE
  have get : ∀ i d, (cs ++ [c])[i]? = some d → cs[i]? = some d ∨ (i = cs.length ∧ d = c) := fun i d hd => by
    rcases Nat.lt_or_ge i cs.length with hlt | hge
    · rw [List.getElem?_append_left hlt] at hd; exact .inl hd
    · rw [List.getElem?_append_right hge] at hd
      have : i - cs.length = 0 := by
        have := (List.getElem?_eq_some_iff.1 hd).1
        simp at this; omega
      rw [this] at hd
      simp only [List.getElem?_cons_zero, Option.some.injEq] at hd
      exact .inr ⟨by omega, hd.symm⟩
  refine ⟨fun i d hd => ?_, fun i j d e hij hd he k hk => ?_, fun i d hd k hk => ?_⟩
  · rcases get i d hd with h3 | ⟨_, rfl⟩
    · exact h2.each i d h3
    · exact ⟨hc, ok⟩
  · rcases get i d hd with h3 | ⟨h3, rfl⟩
    · rcases get j e he with h4 | ⟨_, rfl⟩
      · exact h.apart i j d e hij h3 h4 k hk
      · intro hk2
        have := (h.each i d h3).1.lt k hk
        have := hfp k hk2
        omega
    · rcases get j e he with h4 | ⟨h4, _⟩
      · intro hk2
        have := (h.each j e h4).1.lt k hk2
        have := hfp k hk
        omega
      · omega
  · rcases get i d hd with h3 | ⟨_, rfl⟩
    · exact h.low i d h3 k hk
    · exact Nat.le_trans hN (hfp k hk)

theorem Team.lt (h : Team fa N w cs) {i : Nat} {c : Cr} (hc : cs[i]? = some c) : ∀ k ∈ c.fp, k < w.heap.size := (h.each i c hc).1.lt

/-- One of them turns. -/
theorem Team.post (h : Team fa N w cs) {i : Nat} {c : Cr} (hc : cs[i]? = some c) {u : St} (ok : u.Ok) (hP : CorePost fa c.b c.fp u w w') (hN : N ≤ w.heap.size) :
    ∃ fp', Team fa N w' (cs.set i ⟨c.b, fp', u⟩) ∧ Turn c.fp w w' ∧ Kinds w c.fp := by
  obtain ⟨fp', h1, h2, h3⟩ := hP
  have hK := (h.each i c hc).1.kinds
  have hlt := (List.getElem?_eq_some_iff.1 hc).1
  have get : ∀ j d, (cs.set i ⟨c.b, fp', u⟩)[j]? = some d → (j = i ∧ d = ⟨c.b, fp', u⟩) ∨ (j ≠ i ∧ cs[j]? = some d) := fun j d hd => by
    rw [List.getElem?_set] at hd
    split at hd
    · rename_i he
      subst he
      injection hd with hd
      exact .inl ⟨rfl, hd.symm⟩
    · rename_i he
      exact .inr ⟨fun e => he e.symm, hd⟩
  refine ⟨fp', ⟨fun j d hd => ?_, fun j l d e hjl hd he k hk => ?_, fun j d hd k hk => ?_⟩, h2, hK⟩
  · rcases get j d hd with ⟨_, rfl⟩ | ⟨hj, h4⟩
    · exact ⟨h1, ok⟩
    · have h5 := h.each j d h4
      exact ⟨h5.1.turn h2 (h.each i c hc).1.noByte (h.apart j i d c hj h4 hc), h5.2⟩
  · rcases get j d hd with ⟨hj, rfl⟩ | ⟨hj, h4⟩
    · rcases get l e he with ⟨hl, _⟩ | ⟨hl, h5⟩
      · omega
      · intro hk2
        rcases h3 k hk with h6 | h6
        · exact h.apart l i e c hl h5 hc k hk2 h6
        · have := h.lt h5 k hk2; omega
    · rcases get l e he with ⟨hl, rfl⟩ | ⟨hl, h5⟩
      · intro hk2
        rcases h3 k hk2 with h6 | h6
        · exact h.apart j i d c hj h4 hc k hk h6
        · have := h.lt h4 k hk; omega
      · exact h.apart j l d e hjl h4 h5 k hk
  · rcases get j d hd with ⟨_, rfl⟩ | ⟨_, h4⟩
    · rcases h3 k hk with h6 | h6
      · exact h.low i c hc k h6
      · omega
    · exact h.low j d h4 k hk
end

/-- Pointers to cores, as cells. -/
def ptrs (cs : List Cr) : List Value := cs.map fun c => .pointer (some ⟨c.b, 0, none⟩)
theorem ptrs_length (cs : List Cr) : (ptrs cs).length = cs.length := by simp [ptrs]
theorem ptrs_set {cs : List Cr} {i : Nat} {c : Cr} (hc : cs[i]? = some c) {fp : List Nat} {u : St} : ptrs (cs.set i ⟨c.b, fp, u⟩) = ptrs cs := by
  unfold ptrs
  refine List.ext_getElem? fun j => ?_
  simp only [List.getElem?_map, List.getElem?_set]
  split
  · rename_i he
    subst he
    have hlt := (List.getElem?_eq_some_iff.1 hc).1
    rw [if_pos hlt, hc]
    rfl
  · rfl
theorem states_set {cs : List Cr} {i : Nat} {c : Cr} : (cs.set i c).map (·.s) = (cs.map (·.s)).set i c.s := by
  rw [List.map_set]

theorem info26 : (Try.prog.info? 26).map (fun i => (i.zero, i.size, i.bytes)) = some (some (.pointer none), 1, 8) := by kernel_rfl
end Go.Proofs.Ytiofkiaibcmdhaa
