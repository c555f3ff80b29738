import Derived.Test.YtiofkiaibcmdhaaSafe2
/-
  Peers that tell one another all. No program in sight.
-/
namespace Go.Proofs.Ytiofkiaibcmdhaa

/-- All that it can do, at most so many steps. -/
def goesO (okf : Bytes → Bool) : Nat → St → Option St
  | 0, _ => none
  | n + 1, s => if s.decided then some s else match s.step okf with
    | none => some s.rest
    | some t => goesO okf n t

theorem goesO_acts {okf : Bytes → Bool} {s u : St} (h : Acts okf s u) : ∀ n x, goesO okf n s = some x → u = x := by
  induction h with
  | done hd =>
    intro n x hx
    cases n with
    | zero => cases hx
    | succ n => simp only [goesO, hd, if_true, Option.some.injEq] at hx; exact hx
  | stop hd hs =>
    intro n x hx
    cases n with
    | zero => cases hx
    | succ n => simp only [goesO, hd, hs] at hx; simpa using hx
  | go hd hs _ ih =>
    intro n x hx
    cases n with
    | zero => cases hx
    | succ n =>
      simp only [goesO, hd, hs] at hx
      exact ih n x (by simpa using hx)

/-- What comes of a core behind a thing that may turn it: all that it can do is done. -/
def Heeds (okf : Bytes → Bool) (o : Option St) (s u : St) : Prop := match o with
  | none => u = s
  | some t => Acts okf t u
def heedO (okf : Bytes → Bool) (o : Option St) (s : St) : Option St := match o with
  | none => some s
  | some t => goesO okf 60 t
theorem heedO_eq {okf : Bytes → Bool} {o : Option St} {s u x : St} (h : Heeds okf o s u) (hx : heedO okf o s = some x) : u = x := by
  cases o with
  | none => simp only [heedO, Option.some.injEq] at hx; exact (show u = s from h).trans hx
  | some t => exact goesO_acts h _ _ hx

def Heard (okf : Bytes → Bool) (v : Vt) (s u : St) : Prop := Heeds okf (s.hear v) s u

/-- The first j have been told v. -/
def TellTo (okf : Bytes → Bool) (v : Vt) (j : Nat) (l l' : List St) : Prop := l'.length = l.length ∧ ∀ i s, l[i]? = some s → ∃ u, l'[i]? = some u ∧ (i < j → Heard okf v s u) ∧ (¬ i < j → u = s)
/-- All have been told all these. -/
inductive TellAll (okf : Bytes → Bool) : List Vt → List St → List St → Prop
  | nil {l : List St} : TellAll okf [] l l
  | snoc {vs : List Vt} {v : Vt} {l l1 l2 : List St} : TellAll okf vs l l1 → TellTo okf v l1.length l1 l2 → TellAll okf (vs ++ [v]) l l2
/-- The first i have told all what they tell. -/
inductive TalkTo (okf : Bytes → Bool) : Nat → List St → List St → Prop
  | zero {l : List St} : TalkTo okf 0 l l
  | succ {i : Nat} {s : St} {l l1 l2 : List St} : TalkTo okf i l l1 → l1[i]? = some s → TellAll okf s.says l1 l2 → TalkTo okf (i + 1) l l2
/-- So many rounds of all that. -/
inductive Rounds (okf : Bytes → Bool) : Nat → List St → List St → Prop
  | zero {l : List St} : Rounds okf 0 l l
  | succ {r : Nat} {l l1 l2 : List St} : Rounds okf r l l1 → TalkTo okf l1.length l1 l2 → Rounds okf (r + 1) l l2

theorem TellTo.zero {okf : Bytes → Bool} {v : Vt} {l : List St} : TellTo okf v 0 l l := ⟨rfl, fun _ s h => ⟨s, h, fun h => by omega, fun _ => rfl⟩⟩
theorem TellTo.next {okf : Bytes → Bool} {v : Vt} {j : Nat} {l l' : List St} {s u : St} (h : TellTo okf v j l l') (hs : l'[j]? = some s) (hu : Heard okf v s u) : TellTo okf v (j + 1) l (l'.set j u) := by
  refine ⟨by rw [List.length_set]; exact h.1, fun i t ht => ?_⟩
  obtain ⟨x, hx, h1, h2⟩ := h.2 i t ht
  by_cases hij : i = j
  · subst hij
    rw [hx] at hs
    cases hs
    obtain rfl := h2 (by omega)
    exact ⟨u, by rw [List.getElem?_set_self (List.getElem?_eq_some_iff.1 hx).1], fun _ => hu, fun h => by omega⟩
  · exact ⟨x, by rw [List.getElem?_set_ne (fun e => hij e.symm)]; exact hx, fun h => h1 (by omega), fun h => h2 (by omega)⟩
theorem TellTo.none {okf : Bytes → Bool} {v : Vt} {j : Nat} {l l' : List St} {s : St} (h : TellTo okf v j l l') (hs : l'[j]? = some s) (hn : s.hear v = none) : TellTo okf v (j + 1) l l' := by
  have hu : Heard okf v s s := by unfold Heard; rw [hn]; rfl
  have := h.next hs hu
  rwa [set_self hs] at this

/-! ### by reckoning -/

def tellO (okf : Bytes → Bool) (v : Vt) : List St → Option (List St)
  | [] => some []
  | s :: r => match heedO okf (s.hear v) s, tellO okf v r with
    | some u, some r' => some (u :: r')
    | _, _ => none
def tellsO (okf : Bytes → Bool) : List Vt → List St → Option (List St)
  | [], l => some l
  | v :: vs, l => match tellO okf v l with
    | some l' => tellsO okf vs l'
    | none => none
def talkO (okf : Bytes → Bool) : List Nat → List St → Option (List St)
  | [], l => some l
  | i :: r, l => match l[i]? with
    | some s => match tellsO okf s.says l with
      | some l' => talkO okf r l'
      | none => none
    | none => none
def roundsO (okf : Bytes → Bool) : Nat → List St → Option (List St)
  | 0, l => some l
  | r + 1, l => match roundsO okf r l with
    | some l1 => talkO okf (List.range l1.length) l1
    | none => none

theorem tellO_eq {okf : Bytes → Bool} {v : Vt} : ∀ {l l' L : List St}, l'.length = l.length → (∀ (i : Nat) s, l[i]? = some s → ∃ u, l'[i]? = some u ∧ Heard okf v s u) → tellO okf v l = some L → l' = L := by
  intro l
  induction l with
  | nil =>
    intro l' L hlen _ h
    simp only [tellO, Option.some.injEq] at h
    subst h
    exact List.eq_nil_of_length_eq_zero hlen
  | cons s r ih =>
    intro l' L hlen hall h
    cases l' with
    | nil => simp at hlen
    | cons u l' =>
      simp only [tellO] at h
      split at h
      · rename_i x r' h1 h2
        cases h
        obtain ⟨u', hu, hh⟩ := hall 0 s rfl
        simp only [List.getElem?_cons_zero, Option.some.injEq] at hu
        subst hu
        have e1 : u = x := heedO_eq hh h1
        have e2 : l' = r' := ih (by simpa using hlen) (fun i t ht => by simpa using hall (i + 1) t (by simpa using ht)) h2
        rw [e1, e2]
      · cases h

theorem tellsO_append {okf : Bytes → Bool} : ∀ {vs ws : List Vt} {l L : List St}, tellsO okf (vs ++ ws) l = some L → ∃ l1, tellsO okf vs l = some l1 ∧ tellsO okf ws l1 = some L := by
  intro vs
  induction vs with
  | nil => intro ws l L h; exact ⟨l, rfl, h⟩
  | cons v vs ih =>
    intro ws l L h
    simp only [List.cons_append, tellsO] at h
    split at h
    · rename_i l' h1
      obtain ⟨l1, h2, h3⟩ := ih h
      exact ⟨l1, by simp only [tellsO, h1]; exact h2, h3⟩
    · cases h

theorem tellsO_eq {okf : Bytes → Bool} {vs : List Vt} {l l' : List St} (h : TellAll okf vs l l') : ∀ L, tellsO okf vs l = some L → l' = L := by
  induction h with
  | nil => intro L hL; simp only [tellsO, Option.some.injEq] at hL; exact hL
  | @snoc vs v l l1 l2 _ ht ih =>
    intro L hL
    obtain ⟨m, h1, h2⟩ := tellsO_append hL
    obtain rfl := ih m h1
    simp only [tellsO] at h2
    split at h2
    · rename_i x h3
      cases h2
      refine tellO_eq ht.1 (fun i s hs => ?_) h3
      obtain ⟨u, hu, h4, _⟩ := ht.2 i s hs
      exact ⟨u, hu, h4 (List.getElem?_eq_some_iff.1 hs).1⟩
    · cases h2

theorem talkO_append {okf : Bytes → Bool} : ∀ {p q : List Nat} {l L : List St}, talkO okf (p ++ q) l = some L → ∃ l1, talkO okf p l = some l1 ∧ talkO okf q l1 = some L := by
  intro p
  induction p with
  | nil => intro q l L h; exact ⟨l, rfl, h⟩
  | cons i p ih =>
    intro q l L h
    simp only [List.cons_append, talkO] at h
    split at h
    · rename_i s h0
      split at h
      · rename_i l' h1
        obtain ⟨l1, h2, h3⟩ := ih h
        exact ⟨l1, by simp only [talkO, h0, h1]; exact h2, h3⟩
      · cases h
    · cases h
theorem talkO_eq {okf : Bytes → Bool} {n : Nat} {l l' : List St} (h : TalkTo okf n l l') : ∀ L, talkO okf (List.range n) l = some L → l' = L := by
  induction h with
  | zero => intro L hL; simp only [List.range_zero, talkO, Option.some.injEq] at hL; exact hL
  | @succ i s l l1 l2 _ hs ht ih =>
    intro L hL
    rw [List.range_succ] at hL
    obtain ⟨m, h1, h2⟩ := talkO_append hL
    obtain rfl := ih m h1
    simp only [talkO, hs] at h2
    split at h2
    · rename_i x h3
      cases h2
      exact tellsO_eq ht _ h3
    · cases h2
theorem roundsO_eq {okf : Bytes → Bool} {n : Nat} {l l' : List St} (h : Rounds okf n l l') : ∀ L, roundsO okf n l = some L → l' = L := by
  induction h with
  | zero => intro L hL; simp only [roundsO, Option.some.injEq] at hL; exact hL
  | succ _ ht ih =>
    intro L hL
    simp only [roundsO] at hL
    split at hL
    · rename_i m h1
      obtain rfl := ih m h1
      exact talkO_eq ht _ hL
    · cases hL

/-! ### four peers -/

def fourPeers : List St := [St.fresh 4 1 0, St.fresh 4 2 0, St.fresh 4 3 0, St.fresh 4 4 0]
def okAny : Bytes → Bool := fun _ => true
def fourWished : Option (List St) := match heedO okAny ((St.fresh 4 1 0).wished [119]) (St.fresh 4 1 0) with
  | some s => some [s, St.fresh 4 2 0, St.fresh 4 3 0, St.fresh 4 4 0]
  | none => none
def fourEnd : Option (List St) := match fourWished with
  | some l => roundsO okAny 4 l
  | none => none
def decidedW (o : Option St) : Bool := match o with
  | some s => s.decided && decide (s.value = [119])
  | none => false
theorem fourEnd_good : (match fourEnd with | some l => decide (l.length = 4) && decidedW l[3]? | none => false) = true := by decide +kernel

theorem four_live {s : St} {l : List St} (hs : Heeds okAny ((St.fresh 4 1 0).wished [119]) (St.fresh 4 1 0) s) (h : Rounds okAny 4 [s, St.fresh 4 2 0, St.fresh 4 3 0, St.fresh 4 4 0] l) : ∃ t, l[3]? = some t ∧ t.decided = true ∧ t.value = [119] := by
  have hg := fourEnd_good
  unfold fourEnd fourWished at hg
  split at hg
  · rename_i L hL
    split at hL
    · rename_i m hm
      split at hm
      · rename_i x hx
        cases hm
        obtain rfl := heedO_eq hs hx
        obtain rfl := roundsO_eq h L hL
        simp only [Bool.and_eq_true] at hg
        obtain ⟨_, hg⟩ := hg
        cases h3 : l[3]? with
        | none => rw [h3] at hg; simp [decidedW] at hg
        | some t =>
          rw [h3] at hg
          simp only [decidedW, Bool.and_eq_true, decide_eq_true_eq] at hg
          exact ⟨t, rfl, hg.1, hg.2⟩
      · cases hm
    · cases hL
  · cases hg
end Go.Proofs.Ytiofkiaibcmdhaa
