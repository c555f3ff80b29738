import Derived.Test.YtiofkiaibcmdhaaCore
namespace Go.Proofs.Ytiofkiaibcmdhaa
open Go Go.RowKit

theorem heap_setCell_blk {w : World} {b : Nat} {cs : Array Value} {t : TypeId} (h : w.heap[b]? = some (.cells cs t)) (i : Nat) (v : Value) : (w.setCell ⟨b, i, none⟩ v).heap[b]? = some (.cells (cs.setIfInBounds i v) t) := by
  obtain ⟨hlt, hk⟩ := Array.getElem?_eq_some_iff.1 h
  show (w.heap.modify b _)[b]? = _
  rw [Array.getElem?_eq_getElem (by rw [Array.size_modify]; exact hlt), Array.getElem_modify_self, hk]
  simp

theorem nodup_swap {A F F' R : List Nat} {N : Nat} (h : (A ++ (F ++ R)).Nodup) (hF : F'.Nodup) (hnew : ∀ k ∈ F', k ∈ F ∨ N ≤ k) (hA : ∀ k ∈ A, k < N) (hR : ∀ k ∈ R, k < N) : (A ++ (F' ++ R)).Nodup := by
  rw [List.nodup_append, List.nodup_append] at *
  obtain ⟨h1, ⟨h2, h3, h4⟩, h5⟩ := h
  refine ⟨h1, ⟨hF, h3, fun x hx y hy e => ?_⟩, fun x hx y hy e => ?_⟩
  · subst e
    rcases hnew x hx with h | h
    · exact h4 x h x hy rfl
    · have := hR x hy; omega
  · subst e
    rcases List.mem_append.1 hy with hy | hy
    · rcases hnew x hy with h | h
      · exact h5 x hx x (List.mem_append_left _ h) rfl
      · have := hA x hx; omega
    · exact h5 x hx x (List.mem_append_right _ hy) rfl

section
variable {fa : Nat} {w w' : World} {b : Nat} {p : Ptr} {F1 F2 F3 : List Nat} {s : St}

theorem CoreIn.one (h : CoreIn fa w b p F1 F2 F3 s) {m : Nat} (hm : m ∈ foot b p F1 F2 F3) : NoByte w [m] := fun k hk => h.noByte k (by simp at hk; rw [hk]; exact hm)

/-- Its own cells anew, the maps as they are. -/
theorem CoreIn.upd (h : CoreIn fa w b p F1 F2 F3 s) {s' : St} {p' : Ptr} (hT : Turn [b] w w') (hb : w'.heap[b]? = some (.cells (coreCells fa s' p') 110))
    (hm : p'.mp = p.mp ∧ p'.mpr = p.mpr ∧ p'.mc = p.mc ∧ p'.mt = p.mt ∧ p'.ms = p.ms ∧ p'.md = p.md)
    (hs : s'.proposals = s.proposals ∧ s'.prepares = s.prepares ∧ s'.commits = s.commits ∧ s'.turns = s.turns ∧ s'.seen = s.seen ∧ s'.deciders = s.deciders)
    (hw : BB w' p'.aw s'.wish) (hl : BB w' p'.al s'.locked) (hv : BB w' p'.av s'.value) : CoreIn fa w' b p' F1 F2 F3 s' := by
  obtain ⟨m1, m2, m3, m4, m5, m6⟩ := hm
  obtain ⟨s1, s2, s3, s4, s5, s6⟩ := hs
  have hS := h.one foot_mem.1
  have hnd := h.nodup
  have hf : foot b p' F1 F2 F3 = foot b p F1 F2 F3 := by simp [foot, m1, m2, m3, m4, m5, m6]
  have hd : ∀ k, k ≠ b → k ∉ [b] := fun k hk => by simpa using hk
  have hn := hnd
  simp only [foot, List.cons_append, List.nil_append, List.nodup_cons, List.mem_cons, List.mem_append, not_or] at hn
  obtain ⟨⟨n1, n2, n3, n4, n5, n6, n7, n8, n9⟩, _⟩ := hn
  refine ⟨hb, ?_, ?_, ?_, ?_, ?_, ?_, hw, hl, hv, by rw [hf]; exact hnd⟩
  · rw [m1, s1]; exact h.props.turn hT hS (hd _ (Ne.symm n1))
  · rw [m2, s2]; exact h.preps.turn hT hS (hd _ (Ne.symm n2)) fun r hr => hd _ (fun e => n7 (e ▸ hr))
  · rw [m3, s3]; exact h.comms.turn hT hS (hd _ (Ne.symm n3)) fun r hr => hd _ (fun e => n8 (e ▸ hr))
  · rw [m4, s4]; exact h.turns.turn hT hS (hd _ (Ne.symm n4)) fun r hr => hd _ (fun e => n9 (e ▸ hr))
  · rw [m5, s5]; exact h.seen.turn hT (hd _ (Ne.symm n5))
  · rw [m6, s6]; exact h.decs.turn hT hS (hd _ (Ne.symm n6))

theorem CoreIn.setProps (h : CoreIn fa w b p F1 F2 F3 s) (hT : Turn [p.mp] w w') {vs : List (Int × (Bytes × Int))} (hv : PropsAt w' p.mp vs) : CoreIn fa w' b p F1 F2 F3 { s with proposals := vs } := by
  have hS := h.one (foot_mem (F1 := F1) (F2 := F2) (F3 := F3)).2.1
  have hnd := h.nodup
  simp only [foot, List.cons_append, List.nil_append, List.nodup_cons, List.mem_cons, List.mem_append, not_or] at hnd
  have hd : ∀ k, k ≠ p.mp → k ∉ [p.mp] := fun k hk => by simpa using hk
  obtain ⟨⟨e1, _⟩, ⟨e2, e3, e4, e5, e6, e7, e8, e9⟩, _⟩ := hnd
  exact ⟨hT.block _ (hd _ e1) _ h.blk, hv, h.preps.turn hT hS (hd _ (Ne.symm e2)) fun r hr => hd _ (fun e => e7 (e ▸ hr)), h.comms.turn hT hS (hd _ (Ne.symm e3)) fun r hr => hd _ (fun e => e8 (e ▸ hr)),
    h.turns.turn hT hS (hd _ (Ne.symm e4)) fun r hr => hd _ (fun e => e9 (e ▸ hr)), h.seen.turn hT (hd _ (Ne.symm e5)), h.decs.turn hT hS (hd _ (Ne.symm e6)), h.wish.turn hT hS, h.locked.turn hT hS, h.value.turn hT hS, h.nodup⟩

theorem CoreIn.setSeen (h : CoreIn fa w b p F1 F2 F3 s) (hT : Turn [p.ms] w w') {vs : List (Int × Int)} (hv : SeenAt w' p.ms vs) : CoreIn fa w' b p F1 F2 F3 { s with seen := vs } := by
  have hS := h.one (foot_mem (F1 := F1) (F2 := F2) (F3 := F3)).2.2.2.2.2.1
  have hnd := h.nodup
  simp only [foot, List.cons_append, List.nil_append, List.nodup_cons, List.mem_cons, List.mem_append, not_or] at hnd
  have hd : ∀ k, k ≠ p.ms → k ∉ [p.ms] := fun k hk => by simpa using hk
  obtain ⟨⟨_, _, _, _, e1, _⟩, ⟨_, _, _, e2, _⟩, ⟨_, _, e3, _⟩, ⟨_, e4, _⟩, ⟨e5, _⟩, ⟨e6, e7, e8, e9⟩, _⟩ := hnd
  exact ⟨hT.block _ (hd _ e1) _ h.blk, h.props.turn hT hS (hd _ e2), h.preps.turn hT hS (hd _ e3) fun r hr => hd _ (fun e => e7 (e ▸ hr)), h.comms.turn hT hS (hd _ e4) fun r hr => hd _ (fun e => e8 (e ▸ hr)),
    h.turns.turn hT hS (hd _ e5) fun r hr => hd _ (fun e => e9 (e ▸ hr)), hv, h.decs.turn hT hS (hd _ (Ne.symm e6)), h.wish.turn hT hS, h.locked.turn hT hS, h.value.turn hT hS, h.nodup⟩

theorem CoreIn.setDecs (h : CoreIn fa w b p F1 F2 F3 s) (hT : Turn [p.md] w w') {vs : Told} (hv : ToldAt w' p.md vs) : CoreIn fa w' b p F1 F2 F3 { s with deciders := vs } := by
  have hS := h.one (foot_mem (F1 := F1) (F2 := F2) (F3 := F3)).2.2.2.2.2.2.1
  have hnd := h.nodup
  simp only [foot, List.cons_append, List.nil_append, List.nodup_cons, List.mem_cons, List.mem_append, not_or] at hnd
  have hd : ∀ k, k ≠ p.md → k ∉ [p.md] := fun k hk => by simpa using hk
  obtain ⟨⟨_, _, _, _, _, e1, _⟩, ⟨_, _, _, _, e2, _⟩, ⟨_, _, _, e3, _⟩, ⟨_, _, e4, _⟩, ⟨_, e5, _⟩, ⟨e6, _⟩, ⟨e7, e8, e9⟩, _⟩ := hnd
  exact ⟨hT.block _ (hd _ e1) _ h.blk, h.props.turn hT hS (hd _ e2), h.preps.turn hT hS (hd _ e3) fun r hr => hd _ (fun e => e7 (e ▸ hr)), h.comms.turn hT hS (hd _ e4) fun r hr => hd _ (fun e => e8 (e ▸ hr)),
    h.turns.turn hT hS (hd _ e5) fun r hr => hd _ (fun e => e9 (e ▸ hr)), h.seen.turn hT (hd _ e6), hv, h.wish.turn hT hS, h.locked.turn hT hS, h.value.turn hT hS, h.nodup⟩

theorem NoByte.sub {w : World} {S T : List Nat} (h : NoByte w T) (hs : ∀ k ∈ S, k ∈ T) : NoByte w S := fun k hk => h k (hs k hk)

theorem CoreIn.setPreps (h : CoreIn fa w b p F1 F2 F3 s) (hT : Turn (p.mpr :: F1) w w') {vs : List (Int × Told)} {F : List Nat} (hv : ViewsAt w' p.mpr F vs) (hF : F.Nodup) (hnew : ∀ k ∈ F, k ∈ F1 ∨ w.heap.size ≤ k) :
    CoreIn fa w' b p F F2 F3 { s with prepares := vs } := by
  obtain ⟨q0, q1, q2, q3, q4, q5, q6, q7, q8, q9⟩ := foot_mem (b := b) (p := p) (F1 := F1) (F2 := F2) (F3 := F3)
  have hS : NoByte w (p.mpr :: F1) := h.noByte.sub fun k hk => by
    rcases List.mem_cons.1 hk with rfl | hk
    · exact q2
    · exact q7 k hk
  have hlt := h.lt
  have hn := h.nodup
  have hnd : (foot b p F F2 F3).Nodup := nodup_swap hn hF hnew (fun k hk => hlt k (by simp only [List.mem_cons, List.not_mem_nil, or_false] at hk; rcases hk with rfl | rfl | rfl | rfl | rfl | rfl | rfl <;> assumption)) (fun k hk => hlt k ((List.mem_append.1 hk).elim (q8 k) (q9 k)))
  simp only [foot, List.cons_append, List.nil_append, List.nodup_cons, List.mem_cons, List.mem_append, not_or] at hn
  have hd : ∀ k, k ≠ p.mpr → k ∉ F1 → k ∉ p.mpr :: F1 := fun k hk hk2 => by simp [hk, hk2]
  obtain ⟨⟨_, a1, _, _, _, _, b1, _⟩, ⟨a2, _, _, _, _, b2, _⟩, ⟨a3, a4, a5, a6, a7, a8, a9⟩, ⟨_, _, _, b3, _⟩, ⟨_, _, b4, _⟩, ⟨_, b5, _⟩, ⟨b6, _⟩, hnn⟩ := hn
  have hdis : ∀ k, k ∈ F2 ∨ k ∈ F3 → k ∉ F1 := fun k hk hk1 => by
    rw [List.nodup_append] at hnn
    exact hnn.2.2 k hk1 k (List.mem_append.2 hk) rfl
  exact ⟨hT.block _ (hd _ a1 b1) _ h.blk, h.props.turn hT hS (hd _ a2 b2), hv, h.comms.turn hT hS (hd _ (Ne.symm a3) b3) (fun r hr => hd _ (fun e => a8 (e ▸ hr)) (hdis _ (.inl hr))),
    h.turns.turn hT hS (hd _ (Ne.symm a4) b4) (fun r hr => hd _ (fun e => a9 (e ▸ hr)) (hdis _ (.inr hr))), h.seen.turn hT (hd _ (Ne.symm a5) b5), h.decs.turn hT hS (hd _ (Ne.symm a6) b6), h.wish.turn hT hS, h.locked.turn hT hS, h.value.turn hT hS, hnd⟩

theorem CoreIn.setComms (h : CoreIn fa w b p F1 F2 F3 s) (hT : Turn (p.mc :: F2) w w') {vs : List (Int × Told)} {F : List Nat} (hv : ViewsAt w' p.mc F vs) (hF : F.Nodup) (hnew : ∀ k ∈ F, k ∈ F2 ∨ w.heap.size ≤ k) :
    CoreIn fa w' b p F1 F F3 { s with commits := vs } := by
  obtain ⟨q0, q1, q2, q3, q4, q5, q6, q7, q8, q9⟩ := foot_mem (b := b) (p := p) (F1 := F1) (F2 := F2) (F3 := F3)
  have hS : NoByte w (p.mc :: F2) := h.noByte.sub fun k hk => by
    rcases List.mem_cons.1 hk with rfl | hk
    · exact q3
    · exact q8 k hk
  have hlt := h.lt
  have hn := h.nodup
  have hnd : (foot b p F1 F F3).Nodup := by
    have h2 : (([b, p.mp, p.mpr, p.mc, p.mt, p.ms, p.md] ++ F1) ++ (F2 ++ F3)).Nodup := by rw [List.append_assoc]; exact hn
    have := nodup_swap h2 hF hnew (fun k hk => hlt k (by
      rcases List.mem_append.1 hk with hk | hk
      · simp only [List.mem_cons, List.not_mem_nil, or_false] at hk; rcases hk with rfl | rfl | rfl | rfl | rfl | rfl | rfl <;> assumption
      · exact q7 k hk)) (fun k hk => hlt k (q9 k hk))
    rw [List.append_assoc] at this
    exact this
  simp only [foot, List.cons_append, List.nil_append, List.nodup_cons, List.mem_cons, List.mem_append, not_or] at hn
  have hd : ∀ k, k ≠ p.mc → k ∉ F2 → k ∉ p.mc :: F2 := fun k hk hk2 => by simp [hk, hk2]
  obtain ⟨⟨_, _, a1, _, _, _, _, b1, _⟩, ⟨_, a2, _, _, _, _, b2, _⟩, ⟨a3, _, _, _, _, b3, _⟩, ⟨a4, a5, a6, a7, a8, a9⟩, ⟨_, _, _, b4, _⟩, ⟨_, _, b5, _⟩, ⟨_, b6, _⟩, hnn⟩ := hn
  have hnn2 := List.nodup_append.1 hnn
  have hdis1 : ∀ k, k ∈ F1 → k ∉ F2 := fun k hk hk1 => hnn2.2.2 k hk k (List.mem_append_left _ hk1) rfl
  have hdis3 : ∀ k, k ∈ F3 → k ∉ F2 := fun k hk hk1 => (List.nodup_append.1 hnn2.2.1).2.2 k hk1 k hk rfl
  exact ⟨hT.block _ (hd _ a1 b1) _ h.blk, h.props.turn hT hS (hd _ a2 b2), h.preps.turn hT hS (hd _ a3 b3) (fun r hr => hd _ (fun e => a7 (e ▸ hr)) (hdis1 _ hr)), hv,
    h.turns.turn hT hS (hd _ (Ne.symm a4) b4) (fun r hr => hd _ (fun e => a9 (e ▸ hr)) (hdis3 _ hr)), h.seen.turn hT (hd _ (Ne.symm a5) b5), h.decs.turn hT hS (hd _ (Ne.symm a6) b6), h.wish.turn hT hS, h.locked.turn hT hS, h.value.turn hT hS, hnd⟩

theorem CoreIn.setTurns (h : CoreIn fa w b p F1 F2 F3 s) (hT : Turn (p.mt :: F3) w w') {vs : List (Int × Told)} {F : List Nat} (hv : ViewsAt w' p.mt F vs) (hF : F.Nodup) (hnew : ∀ k ∈ F, k ∈ F3 ∨ w.heap.size ≤ k) :
    CoreIn fa w' b p F1 F2 F { s with turns := vs } := by
  obtain ⟨q0, q1, q2, q3, q4, q5, q6, q7, q8, q9⟩ := foot_mem (b := b) (p := p) (F1 := F1) (F2 := F2) (F3 := F3)
  have hS : NoByte w (p.mt :: F3) := h.noByte.sub fun k hk => by
    rcases List.mem_cons.1 hk with rfl | hk
    · exact q4
    · exact q9 k hk
  have hlt := h.lt
  have hn := h.nodup
  have hnd : (foot b p F1 F2 F).Nodup := by
    have h2 : ((([b, p.mp, p.mpr, p.mc, p.mt, p.ms, p.md] ++ F1) ++ F2) ++ (F3 ++ [])).Nodup := by rw [List.append_assoc, List.append_assoc, List.append_nil]; exact hn
    have := nodup_swap h2 hF hnew (fun k hk => hlt k (by
      rcases List.mem_append.1 hk with hk | hk
      · rcases List.mem_append.1 hk with hk | hk
        · simp only [List.mem_cons, List.not_mem_nil, or_false] at hk; rcases hk with rfl | rfl | rfl | rfl | rfl | rfl | rfl <;> assumption
        · exact q7 k hk
      · exact q8 k hk)) (fun k hk => by cases hk)
    rw [List.append_assoc, List.append_assoc, List.append_nil] at this
    exact this
  simp only [foot, List.cons_append, List.nil_append, List.nodup_cons, List.mem_cons, List.mem_append, not_or] at hn
  have hd : ∀ k, k ≠ p.mt → k ∉ F3 → k ∉ p.mt :: F3 := fun k hk hk2 => by simp [hk, hk2]
  obtain ⟨⟨_, _, _, a1, _, _, _, _, b1⟩, ⟨_, _, a2, _, _, _, _, b2⟩, ⟨_, a3, _, _, _, _, b3⟩, ⟨a4, _, _, _, _, b4⟩, ⟨a5, a6, a7, a8, a9⟩, ⟨_, _, _, b5⟩, ⟨_, _, b6⟩, hnn⟩ := hn
  have hnn2 := List.nodup_append.1 hnn
  have hdis1 : ∀ k, k ∈ F1 → k ∉ F3 := fun k hk hk1 => hnn2.2.2 k hk k (List.mem_append_right _ hk1) rfl
  have hdis3 : ∀ k, k ∈ F2 → k ∉ F3 := fun k hk hk1 => (List.nodup_append.1 hnn2.2.1).2.2 k hk k hk1 rfl
  exact ⟨hT.block _ (hd _ a1 b1) _ h.blk, h.props.turn hT hS (hd _ a2 b2), h.preps.turn hT hS (hd _ a3 b3) (fun r hr => hd _ (fun e => a7 (e ▸ hr)) (hdis1 _ hr)),
    h.comms.turn hT hS (hd _ a4 b4) (fun r hr => hd _ (fun e => a8 (e ▸ hr)) (hdis3 _ hr)), hv, h.seen.turn hT (hd _ (Ne.symm a5) b5), h.decs.turn hT hS (hd _ (Ne.symm a6) b6), h.wish.turn hT hS, h.locked.turn hT hS, h.value.turn hT hS, hnd⟩
end
end Go.Proofs.Ytiofkiaibcmdhaa
