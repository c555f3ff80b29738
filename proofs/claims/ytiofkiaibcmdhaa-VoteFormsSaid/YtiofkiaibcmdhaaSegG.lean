import Derived.Test.YtiofkiaibcmdhaaSeg2
import Derived.Test.YtiofkiaibcmdhaaW1
namespace Go.Proofs.Ytiofkiaibcmdhaa
open Go

/-- What a later world has more, and one block anew. -/
structure MoreG where
  o : Obj
  os : Array Obj
  d : Nat
  deriving Inhabited

/-- A later world, in which block g may have turned. -/
def laterG (g : Nat) (w : World) (x : MoreG) : World := { w with heap := w.heap.setIfInBounds g x.o ++ x.os, drawn := x.d }

def ExtG (g : Nat) (w w' : World) : Prop := ∃ x, w' = laterG g w x

theorem ExtG.of_ext {g : Nat} {w w' : World} (h : Ext w w') : ExtG g w w' := by
  obtain ⟨x, rfl⟩ := h
  refine ⟨⟨w.heap.getD g default, x.os, x.d⟩, ?_⟩
  unfold later laterG
  congr 2
  refine Array.ext_getElem? fun i => ?_
  by_cases hi : i = g
  · subst hi
    by_cases hl : i < w.heap.size
    · simp [hl]
    · simp [hl]
  · rw [Array.getElem?_setIfInBounds_ne (fun e => hi e.symm)]
theorem ExtG.refl {g : Nat} (w : World) : ExtG g w w := ExtG.of_ext (Ext.refl w)
theorem ExtG.trans {g : Nat} {a b c : World} (h : ExtG g a b) (k : ExtG g b c) : ExtG g a c := by
  obtain ⟨⟨o1, s1, d1⟩, rfl⟩ := h
  obtain ⟨⟨o2, s2, d2⟩, rfl⟩ := k
  by_cases hg : g < a.heap.size
  · refine ⟨⟨o2, s1 ++ s2, d2⟩, ?_⟩
    unfold laterG
    congr 1
    refine Array.ext_getElem? fun i => ?_
    dsimp only
    by_cases hi : i = g
    · subst hi
      rw [Array.getElem?_append_left (by simp; omega), Array.getElem?_setIfInBounds_self_of_lt (by simp; omega), Array.getElem?_append_left (by simpa using hg), Array.getElem?_setIfInBounds_self_of_lt hg]
    · by_cases h1 : i < a.heap.size
      · rw [Array.getElem?_append_left (by simp; omega), Array.getElem?_setIfInBounds_ne (fun e => hi e.symm), Array.getElem?_append_left (by simpa using h1), Array.getElem?_setIfInBounds_ne (fun e => hi e.symm), Array.getElem?_append_left (by simpa using h1), Array.getElem?_setIfInBounds_ne (fun e => hi e.symm)]
      · by_cases h2 : i < a.heap.size + s1.size
        · rw [Array.getElem?_append_left (by simpa using h2), Array.getElem?_setIfInBounds_ne (fun e => hi e.symm), Array.getElem?_append_right (by simp; omega), Array.getElem?_append_right (by simp; omega), Array.getElem?_append_left (by simp; omega)]
          simp
        · rw [Array.getElem?_append_right (by simp; omega), Array.getElem?_append_right (by simp; omega), Array.getElem?_append_right (by simp; omega)]
          congr 1
          simp
          omega
  · refine ⟨⟨default, s1.setIfInBounds (g - a.heap.size) o2 ++ s2, d2⟩, ?_⟩
    unfold laterG
    congr 1
    refine Array.ext_getElem? fun i => ?_
    dsimp only
    by_cases h1 : i < a.heap.size
    · rw [Array.getElem?_append_left (by simp; omega), Array.getElem?_setIfInBounds_ne (by omega), Array.getElem?_append_left (by simpa using h1), Array.getElem?_setIfInBounds_ne (by omega), Array.getElem?_append_left (by simpa using h1), Array.getElem?_setIfInBounds_ne (by omega)]
    · by_cases h2 : i < a.heap.size + s1.size
      · rw [Array.getElem?_append_left (by simpa using h2), Array.getElem?_append_right (by simp; omega), Array.getElem?_append_left (by simp; omega)]
        by_cases hi : i = g
        · subst hi
          rw [Array.getElem?_setIfInBounds_self_of_lt (by simpa using h2)]
          simp only [Array.size_setIfInBounds]
          rw [Array.getElem?_setIfInBounds_self_of_lt (by omega)]
        · rw [Array.getElem?_setIfInBounds_ne (fun e => hi e.symm), Array.getElem?_append_right (by simp; omega)]
          simp only [Array.size_setIfInBounds]
          rw [Array.getElem?_setIfInBounds_ne (by omega)]
      · rw [Array.getElem?_append_right (by simp; omega), Array.getElem?_append_right (by simp; omega), Array.getElem?_append_right (by simp; omega)]
        congr 1
        simp
        omega
attribute [go_sem] ExtG
theorem laterG_drew (g : Nat) (w : World) (x : MoreG) : laterG g w.drew x = laterG g w x := rfl
attribute [go_sem] laterG_drew

section
variable {g : Nat} {P : Program} {ops : Array Oper} {md : Region.Mode}

/-- What one operation yields in this and every later world, leaving the world alone. -/
def SteadyG (g : Nat) (P : Program) (ops : Array Oper) (w : World) (o : Oper) (v : Value) (a : Act) : Prop :=
  (Region.wanted o (yielded ops a.tmps) = true ∧ ∀ w', ExtG g w w' → (execOp a.eval o).run P w' = .ok (.value v) w') ∨
  (Region.wanted o (yielded ops a.tmps) = false ∧ v = undef)

theorem SteadyG.later {w w' : World} {o : Oper} {v : Value} {a : Act} (h : SteadyG g P ops w o v a) (hE : ExtG g w w') : SteadyG g P ops w' o v a := by
  rcases h with ⟨h1, h2⟩ | h
  · exact .inl ⟨h1, fun x hx => h2 x (hE.trans hx)⟩
  · exact .inr h

/-- Whatever order is picked from here on. 'b': a world of which that at hand is a later one; what has been taken first reads of it alone; an operation that is not 'wild' leaves a later one of it. -/
def wpAnySG (g : Nat) (P : Program) (md : Region.Mode) (ops : Array Oper) (wild : Nat → Bool) (Q : Exit → Act → World → Prop) : Nat → Array Bool → Act → World → World → Prop
  | 0, listed, a, _, w => Region.ready md ops listed = [] ∧ Q .normal a w
  | fuel + 1, listed, a, b, w =>
    (Region.ready md ops listed = [] → Q .normal a w) ∧
    ∀ i ∈ Region.ready md ops listed, wpOp P ops Q i (fun a' w' => ∃ b', (wild i = false → ExtG g b b') ∧ ExtG g b' w' ∧ wpAnySG g P md ops wild Q fuel (listed.setIfInBounds i true) a' b' w') a w

theorem wpAny_of_SG {wild : Nat → Bool} {Q : Exit → Act → World → Prop} : ∀ (fuel : Nat) (listed : Array Bool) (a : Act) (b w : World), wpAnySG g P md ops wild Q fuel listed a b w → wpAny P md ops Q fuel listed a w
  | 0, _, _, _, _, h => h
  | fuel + 1, _, _, _, _, h => ⟨h.1, fun i hi => wpOp_mono (fun a' w' h' => let ⟨b', _, _, h3⟩ := h'; wpAny_of_SG fuel _ a' b' w' h3) (h.2 i hi)⟩

theorem SteadyG.same {w : World} {o : Oper} {v : Value} {a a' : Act} (hy : SteadyG g P ops w o v a) (he : execOp a'.eval o = execOp a.eval o)
    (hw : Region.wanted o (yielded ops a'.tmps) = Region.wanted o (yielded ops a.tmps)) : SteadyG g P ops w o v a' := by
  unfold SteadyG at *
  rw [he, hw]
  exact hy

theorem SteadyG.op {b w : World} {i : Nat} {o : Oper} {v : Value} {a : Act} {Q : Exit → Act → World → Prop} (hi : ops[i]? = some o) (hbw : ExtG g b w) (hy : SteadyG g P ops b o v a) {K : Act → World → Prop} (h : K (a.put o.dst v) w) : wpOp P ops Q i K a w := by
  unfold wpOp
  simp only [hi]
  rcases hy with ⟨hw, hv⟩ | ⟨hw, rfl⟩
  · simp only [hw, if_true, Oper.wp, hv w hbw, Oper.upon]; exact .inl h
  · simp only [hw, Bool.false_eq_true, if_false]; exact h

/-- 'oj' behind 'oi''s value, 'oi' still to come: it makes no odds. -/
theorem swap_opG {b w : World} {j : Nat} {oi oj : Oper} {v : Value} {Q : Exit → Act → World → Prop} (hj : ops[j]? = some oj) (hap : oi.apart ops oj = true)
    (hsi : ∀ cs b, oi.op ≠ .select cs b) (hsj : ∀ cs b, oj.op ≠ .select cs b)
    (hQ : ∀ c a d u w, Q (.panic c) (Act.put a d u) w → Q (.panic c) a w) {K K' : Act → World → Prop} {a : Act}
    (hy : SteadyG g P ops b oi v a) (hK : ∀ a' w', SteadyG g P ops b oi v a' → K (a'.put oi.dst v) w' → K' a' w')
    (h : wpOp P ops Q j K (a.put oi.dst v) w) : wpOp P ops Q j K' a w := by
  obtain ⟨h1, h2, h3⟩ := Oper.apart_spec hap
  have keep : ∀ (a : Act), SteadyG g P ops b oi v a → ∀ u, SteadyG g P ops b oi v (a.put oj.dst u) := fun a hy u =>
    hy.same (execOp_put oi hsi a oj.dst u h3) (wanted_put oi a oj.dst u h3)
  have keepD : ∀ d, SteadyG g P ops b oi v { a with defers := d :: a.defers } := fun d => hy.same rfl rfl
  unfold wpOp at *
  simp only [hj] at *
  rw [wanted_put oj a oi.dst v h1] at h
  by_cases hw : Region.wanted oj (yielded ops a.tmps) = true
  · simp only [hw, if_true] at h ⊢
    rcases h with h | ⟨hasks, hlets⟩
    · refine .inl ?_
      unfold Oper.wp at *
      rw [execOp_put oj hsj a oi.dst v h1] at h
      generalize (execOp a.eval oj).run P w = r at *
      cases r with
      | ok n w' =>
        cases n <;> simp only [Oper.upon] at h ⊢
        case value u => exact hK _ _ (keep a hy u) (by rw [← Act.put_comm a v u h2]; exact h)
        case skip => exact hK _ _ (keep a hy _) (by rw [← Act.put_comm a v undef h2]; exact h)
        case defer d =>
          refine hK _ _ (keep _ (keepD d) _) ?_
          rw [← Act.put_comm _ v undef h2, ← Act.put_defers]
          exact h
        case enter f args =>
          refine Calls.mono h fun e w'' he => ?_
          cases e with
          | returned u => exact hK _ _ (keep a hy u) (by rw [← Act.put_comm a v u h2]; exact he)
          | panicked c => exact hQ _ _ _ _ _ he
          | outgrown => exact he
        case row row args => exact Rows.mono h fun u w'' he => hK _ _ (keep a hy u) (by rw [← Act.put_comm a v u h2]; exact he)
      | halt x w' =>
        cases x <;> simp only [Oper.upon] at h ⊢
        case panic u => exact hQ _ _ _ _ _ h
    · exact .inr ⟨by unfold Oper.asks at *; rw [execOp_put oj hsj a oi.dst v h1] at hasks; exact hasks, hlets⟩
  · simp only [hw] at h ⊢
    exact hK _ _ (keep a hy _) (by rw [← Act.put_comm a v undef h2]; exact h)

/-- One that may come now, and is steady, may be taken first; the wild ones all come behind it. -/
theorem wpAnyS_firstG {wild : Nat → Bool} {Q : Exit → Act → World → Prop} {i : Nat} {oi : Oper} {v : Value} (hi : ops[i]? = some oi) (hsel : ∀ (j : Nat) (o : Oper) cs b, ops[j]? = some o → o.op ≠ .select cs b)
    (hQ : ∀ c a d u w, Q (.panic c) (Act.put a d u) w → Q (.panic c) a w) (N : Nat) :
    ∀ (fuel : Nat) (listed : Array Bool) (a : Act) (b w : World), ExtG g b w → Shut md ops listed →
      (∀ j oj, ops[j]? = some oj → j ≠ i → listed.getD j true = false → (∀ e ∈ oj.after, Region.binds md e = true → e.on ≠ i) → oi.apart ops oj = true) →
      (∀ j, j < ops.size → wild j = true → listed.getD j true = false → behind md ops N j i = true) →
      i ∈ Region.ready md ops listed → SteadyG g P ops b oi v a →
      wpAnySG g P md ops wild Q fuel (listed.setIfInBounds i true) (a.put oi.dst v) b w → wpAnySG g P md ops wild Q (fuel + 1) listed a b w := by
  intro fuel
  induction fuel with
  | zero =>
    intro listed a b w hbw _ _ _ hr hy H
    refine ⟨fun h => (by rw [h] at hr; cases hr), fun j hj => ?_⟩
    by_cases hji : j = i
    · subst hji; exact hy.op hi hbw ⟨b, fun _ => ExtG.refl _, hbw, H⟩
    · have := ready_mono hj hji
      rw [H.1] at this
      cases this
  | succ fuel ih =>
    intro listed a b w hbw hshut hfree hwild hr hy H
    have hil : listed.getD i false = false := by
      have := (mem_ready.1 hr).1
      rcases Nat.lt_or_ge i listed.size with h' | h'
      · simpa [h'] using this
      · simp [Array.getElem?_eq_none h'] at this
    refine ⟨fun h => (by rw [h] at hr; cases hr), fun j hj => ?_⟩
    by_cases hji : j = i
    · subst hji; exact hy.op hi hbw ⟨b, fun _ => ExtG.refl _, hbw, H⟩
    · have h1 := H.2 j (ready_mono hj hji)
      obtain ⟨hjun, oj, hoj, hall⟩ := mem_ready.1 hj
      have hnw : wild j = false := by
        cases hwj : wild j with
        | false => rfl
        | true => exact absurd hj (not_ready_of_behind hshut hil (hwild j (Array.getElem?_eq_some_iff.1 hoj).1 hwj hjun))
      have hnot : ∀ e ∈ oj.after, Region.binds md e = true → e.on ≠ i := fun e he hb heq => by
        have h1 := hall e he hb
        rw [heq, hil] at h1
        cases h1
      refine swap_opG hoj (hfree j oj hoj hji hjun hnot) (fun cs b => hsel i oi cs b hi) (fun cs b => hsel j oj cs b hoj) hQ hy ?_ h1
      rintro a' w' hy' ⟨b', hE, hbw', h3⟩
      refine ⟨b', hE, hbw', ih (listed.setIfInBounds j true) a' b' w' hbw' (ready_shut hshut hj) ?_ ?_ (ready_mono hr (Ne.symm hji)) (hy'.later (hE hnw)) ?_⟩
      · intro k ok hk hki hun hno
        refine hfree k ok hk hki ?_ hno
        by_cases hjk : j = k
        · subst hjk; exact hjun
        · rw [getD_set_ne true hjk] at hun; exact hun
      · intro k hks hk hun
        refine hwild k hks hk ?_
        by_cases hjk : j = k
        · subst hjk; exact hjun
        · rw [getD_set_ne true hjk] at hun; exact hun
      · rw [Array.setIfInBounds_comm _ _ hji]
        exact h3

/-- What the lexical walk of quiet operations says of one of them. -/
theorem steady_of_quietG {w : World} {o : Oper} {a : Act} {K : Act → Prop} (ho : plainOp o.op = true)
    (h : if Region.wanted o (yielded ops a.tmps) then o.quiet P a (ExtG g w) K else K (a.put o.dst undef)) : ∃ v, SteadyG g P ops w o v a ∧ K (a.put o.dst v) := by
  by_cases hw : Region.wanted o (yielded ops a.tmps) = true
  · rw [if_pos hw] at h
    obtain ⟨v, h1, h2⟩ := h
    refine ⟨v, .inl ⟨hw, fun w' hE => ?_⟩, h2⟩
    have h3 := h1 w' hE
    unfold Oper.quietAt at h3
    cases hr : (execOp a.eval o).run P w' with
    | halt e w2 => rw [hr] at h3; exact h3.elim
    | ok n w2 =>
      obtain ⟨u, rfl⟩ := plain_value ho hr
      rw [hr] at h3
      obtain ⟨rfl, rfl⟩ := h3
      rfl
  · rw [if_neg hw] at h
    exact ⟨undef, .inr ⟨by simpa using hw, rfl⟩, h⟩

/-- One call, or what else leaves a later world than 'b', and what follows: from a new 'b' on. -/
def liveAtG (g : Nat) (P : Program) (ops : Array Oper) (o : Oper) (next : Act → World → World → Prop) (a : Act) (b w : World) : Prop :=
  if Region.wanted o (yielded ops a.tmps) then o.wp P a w (fun a' w' => ∃ b', ExtG g b b' ∧ ExtG g b' w' ∧ next a' b' w') NoExit else next (a.put o.dst undef) b w

/-- The walk of a region in pieces: operations that only read, one that leaves a later world, operations that only read ..; at the end those that read, and then the rest in the one order that there is. -/
def wpSegsG (g : Nat) (P : Program) (ops : Array Oper) (Q : Exit → Act → World → Prop) (fin : List Oper × List Oper) : List (List Oper × Oper) → Act → World → World → Prop
  | [], a, b, w => wpQuiet P ops (ExtG g b) (fun a1 => wpList P ops Q fin.2 a1 w) fin.1 a
  | (l, o) :: rest, a, b, w => wpQuiet P ops (ExtG g b) (fun a1 => liveAtG g P ops o (wpSegsG g P ops Q fin rest) a1 b w) l a

theorem segs_anyG {L : List Oper} {Q : Exit → Act → World → Prop} {wild : List Nat} (hs : Region.noSelect L.toArray = true)
    (hQ : ∀ c a d u w, Q (.panic c) (Act.put a d u) w → Q (.panic c) a w) :
    ∀ (n : Nat) (p : List (List Nat × Nat)) (q t : List Nat) (listed : Array Bool) (a : Act) (b w : World), ExtG g b w → cntS p q t = n → segsB md L.toArray wild p q t listed = true →
      Shut md L.toArray listed → (∀ j ∈ t, wild.contains j = true) → wpSegsG g P L.toArray Q (pickO L q, pickO L t) (pickS L p) a b w →
      wpAnySG g P md L.toArray (fun j => wild.contains j) Q n listed a b w := by
  have take : ∀ (n i : Nat) (listed : Array Bool) (a : Act) (b w : World) (K : Act → Prop), ExtG g b w → takesB md L.toArray wild i listed = true → Shut md L.toArray listed →
      (if Region.wanted (nthO L i) (yielded L.toArray a.tmps) then (nthO L i).quiet P a (ExtG g b) K else K (a.put (nthO L i).dst undef)) →
      (∀ a', K a' → wpAnySG g P md L.toArray (fun j => wild.contains j) Q n (listed.setIfInBounds i true) a' b w) →
      wpAnySG g P md L.toArray (fun j => wild.contains j) Q (n + 1) listed a b w := by
    intro n i listed a b w K hbw hB hsh h hnext
    simp only [takesB, Bool.and_eq_true] at hB
    obtain ⟨⟨⟨h1, h2⟩, h3⟩, h4⟩ := hB
    cases ho : L.toArray[i]? with
    | none => rw [ho] at h1; simp at h1
    | some o =>
      rw [ho] at h1
      have hn : nthO L i = o := nthO_eq L i o (by simpa using ho)
      rw [hn] at h
      obtain ⟨v, hy, hk⟩ := steady_of_quietG h1 h
      refine wpAnyS_firstG ho (Region.noSelect_spec hs) hQ L.toArray.size n listed a b w hbw hsh (Region.free_spec ho h2) ?_ (by simpa using h3) hy (hnext _ hk)
      intro j hj hw hun
      have h5 := List.all_eq_true.1 h4 j (by simpa using hw)
      simpa [hun] using h5
  intro n
  induction n with
  | zero =>
    intro p q t listed a b w hbw hc hB hsh ht h
    have hp : p = [] := by cases p with | nil => rfl | cons x r => simp [cntS] at hc
    have hq : q = [] := by cases q with | nil => rfl | cons x r => simp [cntS] at hc
    have htt : t = [] := by cases t with | nil => rfl | cons x r => simp [cntS] at hc
    subst hp; subst hq; subst htt
    rw [segsB] at hB
    exact ⟨by simpa using hB, h⟩
  | succ n ih =>
    intro p q t listed a b w hbw hc hB hsh ht h
    cases p with
    | nil =>
      cases q with
      | nil =>
        cases t with
        | nil => simp [cntS] at hc
        | cons j t =>
          rw [segsB] at hB
          simp only [Bool.and_eq_true] at hB
          obtain ⟨h1, h2⟩ := hB
          have hr : Region.ready md L.toArray listed = [j] := by simpa using h1
          refine ⟨fun h0 => (by rw [h0] at hr; cases hr), fun i hi => ?_⟩
          rw [hr] at hi
          obtain rfl : i = j := by simpa using hi
          have hmem : i ∈ Region.ready md L.toArray listed := by rw [hr]; simp
          obtain ⟨_, o, ho, _⟩ := mem_ready.1 hmem
          have hn : nthO L i = o := nthO_eq L i o (by simpa using ho)
          simp only [wpSegsG, pickS, pickO, wpQuiet, wpList, hn] at h
          unfold wpOp
          simp only [ho]
          have next : ∀ a' w', wpList P L.toArray Q (pickO L t) a' w' → ∃ b', (wild.contains i = false → ExtG g b b') ∧ ExtG g b' w' ∧ wpAnySG g P md L.toArray (fun j => wild.contains j) Q n (listed.setIfInBounds i true) a' b' w' := by
            intro a' w' hk
            refine ⟨w', fun hw => ?_, ExtG.refl _, ih [] [] t _ a' w' w' (ExtG.refl _) (by simp [cntS] at hc ⊢; omega) h2 (ready_shut hsh hmem) (fun k hk => ht k (by simp [hk])) (by simpa only [wpSegsG, pickS, pickO, wpQuiet] using hk)⟩
            rw [ht i (by simp)] at hw
            cases hw
          by_cases hw : Region.wanted o (yielded L.toArray a.tmps) = true
          · simp only [hw, if_true] at h ⊢
            exact h.imp (Oper.wp_mono next) id
          · simp only [hw] at h ⊢
            exact next _ _ h
      | cons i q =>
        rw [segsB] at hB
        simp only [Bool.and_eq_true] at hB
        simp only [wpSegsG, pickS, pickO, wpQuiet] at h
        refine take n i listed a b w _ hbw hB.1 hsh h fun a' hk => ih [] q t _ a' b w hbw (by simp [cntS] at hc ⊢; omega) hB.2 (ready_shut hsh ?_) ht (by simpa only [wpSegsG, pickS] using hk)
        have := hB.1
        simp only [takesB, Bool.and_eq_true] at this
        simpa using this.1.2
    | cons s p =>
      obtain ⟨l, j⟩ := s
      cases l with
      | nil =>
        rw [segsB] at hB
        simp only [Bool.and_eq_true, Bool.not_eq_true'] at hB
        obtain ⟨⟨h1, h3⟩, h2⟩ := hB
        have hr : Region.ready md L.toArray listed = [j] := by simpa using h1
        refine ⟨fun h0 => (by rw [h0] at hr; cases hr), fun i hi => ?_⟩
        rw [hr] at hi
        obtain rfl : i = j := by simpa using hi
        have hmem : i ∈ Region.ready md L.toArray listed := by rw [hr]; simp
        obtain ⟨_, o, ho, _⟩ := mem_ready.1 hmem
        have hn : nthO L i = o := nthO_eq L i o (by simpa using ho)
        simp only [wpSegsG, pickS, pickO, wpQuiet, liveAtG, hn] at h
        unfold wpOp
        simp only [ho]
        have next : ∀ a' b' w', ExtG g b' w' → wpSegsG g P L.toArray Q (pickO L q, pickO L t) (pickS L p) a' b' w' → wpAnySG g P md L.toArray (fun j => wild.contains j) Q n (listed.setIfInBounds i true) a' b' w' := by
          intro a' b' w' hb' hk
          exact ih p q t _ a' b' w' hb' (by simp [cntS] at hc ⊢; omega) h2 (ready_shut hsh hmem) ht hk
        by_cases hw : Region.wanted o (yielded L.toArray a.tmps) = true
        · simp only [hw, if_true] at h ⊢
          exact .inl (Oper.wp_mono (fun a' w' ⟨b', h1, h2, h3⟩ => ⟨b', fun _ => h1, h2, next a' b' w' h2 h3⟩) (Oper.wp_of_noExit h))
        · simp only [hw] at h ⊢
          exact ⟨b, fun _ => ExtG.refl _, hbw, next _ _ _ hbw h⟩
      | cons i l =>
        rw [segsB] at hB
        simp only [Bool.and_eq_true] at hB
        simp only [wpSegsG, pickS, pickO, wpQuiet] at h
        refine take n i listed a b w _ hbw hB.1 hsh h fun a' hk => ih ((l, j) :: p) q t _ a' b w hbw (by simp [cntS] at hc ⊢; omega) hB.2 (ready_shut hsh ?_) ht (by simpa only [wpSegsG, pickS] using hk)
        have := hB.1
        simp only [takesB, Bool.and_eq_true] at this
        simpa using this.1.2

/-- **A region that draws its order, walked in pieces in one order.** -/
theorem wp_region_segsG (g : Nat) {id : Nat} {L : List Oper} {Q : Exit → Act → World → Prop} {a : Act} {w : World} (hm : P.follows .mixedOrders = true)
    (p : List (List Nat × Nat)) (q t : List Nat) (hB : (cntS p q t == L.length && Region.noSelect L.toArray && segsB .any L.toArray t p q t (Array.replicate L.toArray.size false)) = true)
    (hQ : ∀ c a d u w, Q (.panic c) (Act.put a d u) w → Q (.panic c) a w)
    (h : wpSegsG g P L.toArray Q (pickO L q, pickO L t) (pickS L p) a w.drew w.drew) : (Code.region id L.toArray true).wp P Q a w := by
  simp only [Bool.and_eq_true, beq_iff_eq] at hB
  obtain ⟨⟨h1, h2⟩, h3⟩ := hB
  refine wp_region_any hm (wpAny_of_SG (g := g) (wild := fun j => t.contains j) _ _ _ w.drew _ ?_)
  have hsh : Shut .any L.toArray (Array.replicate L.toArray.size false) := by
    intro i o hi hl
    have : i < L.toArray.size := (Array.getElem?_eq_some_iff.1 hi).1
    simp at this
    simp [this] at hl
  have := segs_anyG (P := P) (md := .any) h2 hQ L.length p q t _ a w.drew w.drew (ExtG.refl _) h1 h3 hsh (fun j hj => by simpa using hj) h
  simpa using this
end

theorem laterG_heap {g : Nat} {w : World} {x : MoreG} {k : Nat} {o : Obj} (h : w.heap[k]? = some o) (hk : k ≠ g) : (laterG g w x).heap[k]? = some o := by
  have hl : k < w.heap.size := (Array.getElem?_eq_some_iff.1 h).1
  unfold laterG
  dsimp only
  rw [Array.getElem?_append_left (by simpa using hl), Array.getElem?_setIfInBounds_ne (fun e => hk e.symm)]
  exact h
theorem ExtG.heap {g : Nat} {w w' : World} (h : ExtG g w w') {k : Nat} {o : Obj} (ho : w.heap[k]? = some o) (hk : k ≠ g) : w'.heap[k]? = some o := by
  obtain ⟨x, rfl⟩ := h
  exact laterG_heap ho hk
theorem ExtG.ofBlk {g : Nat} {w : World} {b i : Nat} {cs : Array Value} {t : TypeId} {v : Value} (h : w.heap[b]? = some (.cells cs t)) (hb : b ≠ g) (hv : cs[i]? = some v) : ∀ x, (laterG g w x).cell? ⟨b, i, none⟩ = some v := fun x => by
  unfold World.cell?
  simp [laterG_heap h hb, hv]
theorem ExtG.of_grown {g : Nat} {w w' : World} (h : w.grownBy w' (some g)) : ExtG g w w' := by
  obtain ⟨h1, h2, h3, h4, h5⟩ := h
  refine ⟨⟨w'.heap.getD g default, w'.heap.extract w.heap.size w'.heap.size, w'.drawn⟩, ?_⟩
  have hh : w'.heap = w.heap.setIfInBounds g (w'.heap.getD g default) ++ w'.heap.extract w.heap.size w'.heap.size := by
    refine Array.ext_getElem? fun i => ?_
    rcases Nat.lt_or_ge i w.heap.size with hi | hi
    · rw [Array.getElem?_append_left (by simpa using hi)]
      by_cases hg : i = g
      · subst hg
        rw [Array.getElem?_setIfInBounds_self_of_lt hi]
        simp [Nat.lt_of_lt_of_le hi h4]
      · rw [Array.getElem?_setIfInBounds_ne (fun e => hg e.symm)]
        exact h5 i hi (fun e => hg (by cases e; rfl))
    · rw [Array.getElem?_append_right (by simpa using hi)]
      simp only [Array.getElem?_extract, Array.size_setIfInBounds]
      split
      · congr 1; omega
      · exact Array.getElem?_eq_none (by omega)
  obtain ⟨hp, tp, dr, os, ou⟩ := w'
  obtain ⟨hp0, tp0, dr0, os0, ou0⟩ := w
  simp only at h1 h2 h3 hh
  subst h1; subst h2; subst h3
  unfold laterG
  simp only
  rw [← hh]
theorem ExtG.of_own {g : Nat} {w w' : World} {row : Option Nat} (h : w.grownBy w' row) (hr : ∀ r, row = some r → r = g) : ExtG g w w' := by
  cases row with
  | none => exact ExtG.of_ext (ext_of_grown h)
  | some r => obtain rfl := hr r rfl; exact ExtG.of_grown h
theorem ExtG.of_turn {g : Nat} {w w' : World} (h : Turn [g] w w') : ExtG g w w' :=
  ExtG.of_grown ⟨h.os, h.tape, h.output, h.size, fun k hk hne => by
    obtain ⟨o, ho⟩ : ∃ o, w.heap[k]? = some o := ⟨_, Array.getElem?_eq_getElem hk⟩
    rw [ho]
    exact h.block k (by simpa using fun e => hne (by rw [e])) o ho⟩
theorem ExtG.turn {g : Nat} {w w' : World} (h : ExtG g w w') : Turn [g] w w' := by
  refine ⟨?_, ?_, ?_, ?_, fun k hk o ho => h.heap ho (by simpa using hk)⟩ <;> (obtain ⟨x, rfl⟩ := h; first | rfl | simp [laterG])
theorem ExtG.own {g : Nat} {w w1 w2 : World} {row : Option Nat} (h : ExtG g w w1) (hg : w1.grownBy w2 row) (hr : ∀ r, row = some r → r = g ∨ w.heap.size ≤ r) : ExtG g w w2 := by
  cases row with
  | none => exact h.trans (ExtG.of_ext (ext_of_grown hg))
  | some r =>
    rcases hr r rfl with rfl | h2
    · exact h.trans (ExtG.of_grown hg)
    · exact ExtG.of_turn (h.turn.trans (ExtG.of_grown hg).turn (fun x hx => .inr (by simp only [List.mem_singleton] at hx; omega)))
end Go.Proofs.Ytiofkiaibcmdhaa
