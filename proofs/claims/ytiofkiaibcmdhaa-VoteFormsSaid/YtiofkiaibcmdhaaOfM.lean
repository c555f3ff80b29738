import Derived.Test.YtiofkiaibcmdhaaRVotes
namespace Go.Proofs.Ytiofkiaibcmdhaa
open Go Go.RowKit

theorem votesL_len (me cview : Int) : ∀ (k : Nat) (last : Int) (r : Rd) (vs : List (Int × Told)), (votesL me cview k last r vs).1.1.length ≤ r.1.length := by
  intro k
  induction k with
  | zero => intro last r vs; exact Nat.le_refl _
  | succ k ih =>
    intro last r vs
    have h1 := (fourR_range r).2.2
    have h2 := (fourR_range (fourR r).2).2.2
    have h3 := (takeR_len (fourR (fourR r).2).1.toNat (fourR (fourR r).2).2).2
    unfold votesL
    simp only
    split
    · simp only; omega
    · exact Nat.le_trans (ih _ _ _) (by omega)
theorem votesR_len (me cview : Int) (r : Rd) (vs : List (Int × Told)) : (votesR me cview r vs).1.1.length ≤ r.1.length := by
  have h1 := (fourR_range r).2.2
  exact Nat.le_trans (votesL_len ..) h1

/-- The last of a core's own commits, as 'Of' finds it. -/
def lastOf (m : List (Int × Told)) (me : Int) : Int × Bytes := (isort (m.map (·.1))).foldl (fun _ v => (v, (at2 m v me).getD [])) (-1, [])

/-- What is read. -/
structure Parsed where
  view : Int
  preps : List (Int × Told)
  comms : List (Int × Told)
  kind : Bytes
  value : Bytes
  bad : Bool
def parse (me : Int) (b : Bytes) : Parsed :=
  let v := fourR (b, false)
  let p := votesR me v.1 v.2 []
  let c := votesR me v.1 p.1 []
  let k := takeR 1 c.1
  let l := fourR k.2
  let x := takeR l.1.toNat l.2
  ⟨v.1, p.2, c.2, k.1, x.1, x.2.2⟩
def Parsed.wrong (q : Parsed) : Bool := q.bad || decide (1048576 < q.view) || (match q.kind with | [x] => decide (1 < x.toNat) | _ => true)
def Parsed.core (q : Parsed) (n me slot : Int) : St :=
  { St.fresh n me slot with view := q.view, prepares := q.preps, commits := q.comms, value := q.value, decided := decide (q.kind = [1]), lock := (lastOf q.comms me).1, locked := (lastOf q.comms me).2 }
/-- A core anew from bytes; none: they aren't one's. -/
def ofB (n me slot : Int) (b : Bytes) : Option St :=
  if (parse me b).wrong then none else if ((parse me b).core n me slot).bytes = b then some ((parse me b).core n me slot) else none

section
variable {fa : Nat} {w w' : World} {b : Nat} {p : Ptr} {F1 F2 F3 : List Nat} {s : St}

theorem putB_turn (w : World) (r : Nat) (o : Obj) : Turn [r] w (putB w r o) := Turn.put w r o
/-- A reader's block set aside. -/
theorem aside {rb : Nat} {S : List Nat} {o : Obj} (hT : Turn (rb :: S) w w') (ho : w.heap[rb]? = some o) : ∃ u, Turn S w u ∧ Turn [rb] w' u ∧ Turn [rb] u w' := by
  have hlt : rb < w'.heap.size := Nat.lt_of_lt_of_le (Array.getElem?_eq_some_iff.1 ho).1 hT.size
  obtain ⟨o', ho'⟩ : ∃ o', w'.heap[rb]? = some o' := ⟨_, Array.getElem?_eq_getElem hlt⟩
  refine ⟨putB w' rb o, ⟨hT.os, hT.tape, hT.output, by simpa [putB] using hT.size, fun k hk x hx => ?_⟩, Turn.put w' rb o, ⟨rfl, rfl, rfl, by simp [putB], fun k hk x hx => ?_⟩⟩
  · by_cases hkr : k = rb
    · subst hkr
      rw [putB_same hlt]
      rw [ho] at hx
      exact hx
    · show (w'.heap.setIfInBounds rb o)[k]? = some x
      rw [Array.getElem?_setIfInBounds_ne (fun e => hkr e.symm)]
      exact hT.block k (by simp [hkr, hk]) x hx
  · simp only [List.mem_singleton] at hk
    have : (w'.heap.setIfInBounds rb o)[k]? = some x := hx
    rwa [Array.getElem?_setIfInBounds_ne (fun e => hk e.symm)] at this

theorem CoreIn.setPrepsR (h : CoreIn fa w b p F1 F2 F3 s) {rb : Nat} {x y : Value} (hr : w.heap[rb]? = some (.cells #[x, y] 126)) {x' y' : Value} (hr' : w'.heap[rb]? = some (.cells #[x', y'] 126)) (hrf : rb ∉ foot b p F1 F2 F3) (hT : Turn (rb :: p.mpr :: F1) w w') {vs : List (Int × Told)} {F : List Nat}
    (hv : ViewsAt w' p.mpr F vs) (hF : F.Nodup) (hnew : ∀ k ∈ F, k ∈ F1 ∨ w.heap.size ≤ k) : CoreIn fa w' b p F F2 F3 { s with prepares := vs } := by
  obtain ⟨u, hT1, hT2, hT3⟩ := aside hT hr
  have hne : ∀ k ∈ p.mpr :: F, k ≠ rb := fun k hk e => by subst e; exact absurd (hv.kind k hk _ _ _ hr') (by decide)
  have nb : ∀ {W : World} {X Y : Value}, W.heap[rb]? = some (.cells #[X, Y] 126) → NoByte W [rb] := fun hW k hk cs fz hc => by
    simp only [List.mem_singleton] at hk
    subst hk
    rw [hW] at hc
    injection hc with hc
    injection hc with _ hc _
    exact absurd hc (by decide)
  have hvu : ViewsAt u p.mpr F vs := hv.turn hT2 (nb hr') (by simpa using hne _ (by simp)) (fun r hr => by simpa using hne r (by simp [hr]))
  have hu := h.setPreps hT1 hvu hF hnew
  have hru := hT1.block rb (fun hm => hrf (by
    obtain ⟨q0, q1, q2, q3, q4, q5, q6, q7, q8, q9⟩ := foot_mem (b := b) (p := p) (F1 := F1) (F2 := F2) (F3 := F3)
    rcases List.mem_cons.1 hm with rfl | hm
    · exact q2
    · exact q7 _ hm)) _ hr
  refine hu.turn hT3 (nb hru) fun k hk => ?_
  simp only [List.mem_singleton]
  rintro rfl
  simp only [foot, List.mem_append, List.mem_cons, List.not_mem_nil, or_false] at hk hrf
  rcases hk with hk | hk | hk | hk
  · exact hrf (.inl hk)
  · exact hne _ (by simp [hk]) rfl
  · exact hrf (.inr (.inr (.inl hk)))
  · exact hrf (.inr (.inr (.inr hk)))

theorem CoreIn.setCommsR (h : CoreIn fa w b p F1 F2 F3 s) {rb : Nat} {x y : Value} (hr : w.heap[rb]? = some (.cells #[x, y] 126)) {x' y' : Value} (hr' : w'.heap[rb]? = some (.cells #[x', y'] 126)) (hrf : rb ∉ foot b p F1 F2 F3) (hT : Turn (rb :: p.mc :: F2) w w') {vs : List (Int × Told)} {F : List Nat}
    (hv : ViewsAt w' p.mc F vs) (hF : F.Nodup) (hnew : ∀ k ∈ F, k ∈ F2 ∨ w.heap.size ≤ k) : CoreIn fa w' b p F1 F F3 { s with commits := vs } := by
  obtain ⟨u, hT1, hT2, hT3⟩ := aside hT hr
  have hne : ∀ k ∈ p.mc :: F, k ≠ rb := fun k hk e => by subst e; exact absurd (hv.kind k hk _ _ _ hr') (by decide)
  have nb : ∀ {W : World} {X Y : Value}, W.heap[rb]? = some (.cells #[X, Y] 126) → NoByte W [rb] := fun hW k hk cs fz hc => by
    simp only [List.mem_singleton] at hk
    subst hk
    rw [hW] at hc
    injection hc with hc
    injection hc with _ hc _
    exact absurd hc (by decide)
  have hvu : ViewsAt u p.mc F vs := hv.turn hT2 (nb hr') (by simpa using hne _ (by simp)) (fun r hr => by simpa using hne r (by simp [hr]))
  have hu := h.setComms hT1 hvu hF hnew
  have hru := hT1.block rb (fun hm => hrf (by
    obtain ⟨q0, q1, q2, q3, q4, q5, q6, q7, q8, q9⟩ := foot_mem (b := b) (p := p) (F1 := F1) (F2 := F2) (F3 := F3)
    rcases List.mem_cons.1 hm with rfl | hm
    · exact q3
    · exact q8 _ hm)) _ hr
  refine hu.turn hT3 (nb hru) fun k hk => ?_
  simp only [List.mem_singleton]
  rintro rfl
  simp only [foot, List.mem_append, List.mem_cons, List.not_mem_nil, or_false] at hk hrf
  rcases hk with hk | hk | hk | hk
  · exact hrf (.inl hk)
  · exact hrf (.inr (.inl hk))
  · exact hne _ (by simp [hk]) rfl
  · exact hrf (.inr (.inr (.inr hk)))
end
end Go.Proofs.Ytiofkiaibcmdhaa
