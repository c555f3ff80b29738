/-
  The core of a vote as plain data, and what it does. No program in sight.
-/
namespace Go.Proofs.Ytiofkiaibcmdhaa

/-! ### maps keyed by ints, in the order in which the keys came -/

def getV {α : Type} : List (Int × α) → Int → Option α
  | [], _ => none
  | p :: r, k => if p.1 = k then some p.2 else getV r k

def setV {α : Type} : List (Int × α) → Int → α → List (Int × α)
  | [], k, v => [(k, v)]
  | p :: r, k, v => if p.1 = k then (k, v) :: r else p :: setV r k v

theorem getV_setV {α : Type} (es : List (Int × α)) (k j : Int) (v : α) : getV (setV es k v) j = if j = k then some v else getV es j := by
  induction es with
  | nil => simp only [setV, getV]; by_cases h : k = j <;> simp [h, eq_comm]
  | cons p r ih =>
    simp only [setV]
    by_cases h : p.1 = k
    · simp only [if_pos h, getV]
      by_cases h2 : j = k
      · simp [h2]
      · rw [if_neg (fun e => h2 e.symm), if_neg h2, if_neg (fun e => h2 (by rw [← h, ← e]))]
    · simp only [if_neg h, getV]
      by_cases h2 : p.1 = j
      · rw [if_pos h2, if_pos h2, if_neg (fun e => h (by rw [← e, ← h2]))]
      · rw [if_neg h2, if_neg h2, ih]

theorem getV_mem {α : Type} {es : List (Int × α)} {k : Int} {v : α} (h : getV es k = some v) : (k, v) ∈ es := by
  induction es with
  | nil => cases h
  | cons p r ih =>
    simp only [getV] at h
    split at h
    · rename_i he
      cases h
      exact List.mem_cons.2 (.inl (by rw [← he]))
    · exact List.mem_cons.2 (.inr (ih h))

theorem getV_none {α : Type} {es : List (Int × α)} {k : Int} : getV es k = none ↔ k ∉ es.map (·.1) := by
  induction es with
  | nil => simp [getV]
  | cons p r ih =>
    simp only [getV, List.map_cons, List.mem_cons, not_or]
    by_cases h : p.1 = k
    · simp [h]
    · rw [if_neg h, ih]
      exact ⟨fun hx => ⟨fun e => h e.symm, hx⟩, fun hx => hx.2⟩

theorem getV_of_mem {α : Type} {es : List (Int × α)} (hn : (es.map (·.1)).Nodup) {k : Int} {v : α} (h : (k, v) ∈ es) : getV es k = some v := by
  induction es with
  | nil => cases h
  | cons p r ih =>
    simp only [List.map_cons, List.nodup_cons] at hn
    rcases List.mem_cons.1 h with rfl | h
    · simp [getV]
    · simp only [getV]
      split
      · rename_i he
        exact absurd (by rw [he]; exact List.mem_map_of_mem h) hn.1
      · exact ih hn.2 h

theorem setV_keys {α : Type} (es : List (Int × α)) (k : Int) (v : α) : (setV es k v).map (·.1) = if (getV es k).isSome then es.map (·.1) else es.map (·.1) ++ [k] := by
  induction es with
  | nil => rfl
  | cons p r ih =>
    simp only [setV, getV]
    by_cases h : p.1 = k
    · simp [h]
    · simp only [if_neg h, List.map_cons, ih]
      split <;> rfl

theorem setV_nodup {α : Type} {es : List (Int × α)} (hn : (es.map (·.1)).Nodup) (k : Int) (v : α) : ((setV es k v).map (·.1)).Nodup := by
  rw [setV_keys]
  split
  · exact hn
  · rename_i h
    have : k ∉ es.map (·.1) := getV_none.1 (by simpa using h)
    rw [List.nodup_append]
    refine ⟨hn, by simp, ?_⟩
    intro a ha b hb
    simp at hb
    subst hb
    exact fun e => this (e ▸ ha)

/-! ### sorting -/

def ins (x : Int) : List Int → List Int
  | [] => [x]
  | y :: r => if x ≤ y then x :: y :: r else y :: ins x r

def isort : List Int → List Int
  | [] => []
  | x :: r => ins x (isort r)

theorem ins_perm (x : Int) : ∀ l : List Int, (ins x l).Perm (x :: l)
  | [] => List.Perm.refl _
  | y :: r => by
    simp only [ins]
    split
    · exact List.Perm.refl _
    · exact ((ins_perm x r).cons y).trans (List.Perm.swap x y r)

theorem isort_perm : ∀ l : List Int, (isort l).Perm l
  | [] => List.Perm.refl _
  | x :: r => (ins_perm x _).trans ((isort_perm r).cons x)

theorem ins_sorted (x : Int) : ∀ l : List Int, l.Pairwise (· ≤ ·) → (ins x l).Pairwise (· ≤ ·)
  | [], _ => by simp [ins]
  | y :: r, h => by
    simp only [ins]
    have h' := List.pairwise_cons.1 h
    split
    · rename_i hxy
      refine List.pairwise_cons.2 ⟨fun z hz => ?_, h⟩
      rcases List.mem_cons.1 hz with rfl | hz
      · exact hxy
      · exact Int.le_trans hxy (h'.1 z hz)
    · rename_i hxy
      refine List.pairwise_cons.2 ⟨fun z hz => ?_, ins_sorted x r h'.2⟩
      rcases List.mem_cons.1 ((ins_perm x r).mem_iff.1 hz) with rfl | hz
      · omega
      · exact h'.1 z hz

theorem isort_sorted : ∀ l : List Int, (isort l).Pairwise (· ≤ ·)
  | [] => List.Pairwise.nil
  | x :: r => ins_sorted x _ (isort_sorted r)

theorem sorted_unique : ∀ {l m : List Int}, l.Perm m → l.Pairwise (· ≤ ·) → m.Pairwise (· ≤ ·) → l = m := by
  intro l m hp hl hm
  exact hp.eq_of_pairwise (fun a b _ _ h1 h2 => Int.le_antisymm h1 h2) hl hm

theorem isort_of_perm {l m : List Int} (h : l.Perm m) : isort l = isort m :=
  sorted_unique ((isort_perm l).trans (h.trans (isort_perm m).symm)) (isort_sorted l) (isort_sorted m)

theorem mergeSort_isort (l : List Int) : l.mergeSort (fun x y => decide (x ≤ y)) = isort l := by
  refine sorted_unique ((List.mergeSort_perm l _).trans (isort_perm l).symm) ?_ (isort_sorted l)
  have := List.pairwise_mergeSort (le := fun (x y : Int) => decide (x ≤ y)) (fun a b c h1 h2 => by simp at *; omega) (fun a b => by simp; omega) l
  simpa using this

/-! ### the core -/

abbrev Bytes := List UInt8
abbrev Told := List (Int × Bytes)

structure St where
  n : Int
  me : Int
  slot : Int
  view : Int
  wishes : Bool
  wish : Bytes
  proposals : List (Int × (Bytes × Int))
  prepares : List (Int × Told)
  commits : List (Int × Told)
  turns : List (Int × Told)
  seen : List (Int × Int)
  deciders : Told
  lock : Int
  locked : Bytes
  decided : Bool
  value : Bytes

def quorum (n : Int) : Int := n - (n - 1) / 3
def few (n : Int) : Int := (n - 1) / 3

def occ (t : Told) (v : Bytes) : Int := ((t.filter fun p => decide (p.2 = v)).length : Nat)

/-- The value that at least so many told. -/
def maj (t : Told) (least : Int) : Option Bytes :=
  (isort (t.map (·.1))).findSome? fun k => match getV t k with
    | some v => if least ≤ occ t v then some v else none
    | none => none

def at2 (m : List (Int × Told)) (view who : Int) : Option Bytes := getV ((getV m view).getD []) who
def set2 (m : List (Int × Told)) (view who : Int) (v : Bytes) : List (Int × Told) := setV m view (setV ((getV m view).getD []) who v)

namespace St
def proposer (s : St) (view : Int) : Int := 1 + (s.slot + view) % s.n
def prepared (s : St) (view : Int) : Option Bytes := maj ((getV s.prepares view).getD []) (quorum s.n)
def best (s : St) (below : Int) : Option (Int × Bytes) :=
  (isort (s.prepares.map (·.1))).reverse.findSome? fun view => match s.prepared view with
    | some v => if view < below then some (view, v) else none
    | none => none
def far (s : St) : Option Int :=
  if (s.seen.length : Int) ≤ few s.n then none else (isort (s.seen.map (·.2)))[s.seen.length - 1 - (few s.n).toNat]?
def turn (s : St) : Option St := match s.far with
  | some v => if v ≤ s.view then none else some { s with view := v }
  | none => none
def propose (s : St) : Option St :=
  if (getV s.proposals s.view).isSome || s.proposer s.view != s.me then none else
  match s.best s.view with
  | some (view, v) => some { s with proposals := setV s.proposals s.view (v, view) }
  | none => if s.wishes then some { s with proposals := setV s.proposals s.view (s.wish, -1) } else none
def fit (ok : Bytes → Bool) (s : St) (p : Bytes × Int) : Bool :=
  ok p.1 && (decide (s.lock < 0) || decide (p.1 = s.locked) || (decide (s.lock ≤ p.2) && decide (p.2 < s.view) && (s.prepared p.2 == some p.1)))
def prepare (ok : Bytes → Bool) (s : St) : Option St := match getV s.proposals s.view with
  | some p => if (at2 s.prepares s.view s.me).isNone && s.fit ok p then some { s with prepares := set2 s.prepares s.view s.me p.1 } else none
  | none => none
def commit (s : St) : Option St := match s.prepared s.view with
  | some v => if (at2 s.commits s.view s.me).isNone then some { s with lock := s.view, locked := v, commits := set2 s.commits s.view s.me v } else none
  | none => none
def chosen (s : St) : Option Bytes :=
  (isort (s.commits.map (·.1))).findSome? fun view => maj ((getV s.commits view).getD []) (quorum s.n)
def decide' (s : St) : Option St := match s.chosen with
  | some v => some { s with decided := true, value := v }
  | none => match maj s.deciders (few s.n + 1) with
    | some v => some { s with decided := true, value := v }
    | none => none
/-- The first thing that it can do. -/
def step (ok : Bytes → Bool) (s : St) : Option St :=
  s.turn <|> s.propose <|> s.prepare ok <|> s.commit <|> s.decide'
/-- What it is where nothing can be done any more. -/
def rest (s : St) : St := { s with decided := false, value := [] }
end St

/-- All that it can do. -/
inductive Acts (ok : Bytes → Bool) : St → St → Prop
  | done {s : St} : s.decided = true → Acts ok s s
  | stop {s : St} : s.decided = false → s.step ok = none → Acts ok s s.rest
  | go {s t u : St} : s.decided = false → s.step ok = some t → Acts ok t u → Acts ok s u

/-! ### votes -/

structure Vt where
  kind : Int
  from_ : Int
  slot : Int
  view : Int
  valid : Int
  value : Bytes

/-- A vote within its bounds (what EncodeVote takes). -/
def Vt.right (v : Vt) : Bool :=
  decide (1 ≤ v.kind) && decide (v.kind ≤ 5) && decide (1 ≤ v.from_) && decide (v.from_ ≤ 64) && decide (0 ≤ v.slot) && decide (v.slot ≤ 256) && decide (0 ≤ v.view) && decide (v.view ≤ 1048576) &&
  decide (-1 ≤ v.valid) && decide (v.valid ≤ 1048576) && decide (v.value.length ≤ 4096)

def St.know (s : St) (v : Vt) : Option St :=
  if v.kind = 1 then
    if (getV s.proposals v.view).isSome || v.from_ != s.proposer v.view then none else some { s with proposals := setV s.proposals v.view (v.value, v.valid) }
  else if v.kind = 2 then
    if (at2 s.prepares v.view v.from_).isSome then none else some { s with prepares := set2 s.prepares v.view v.from_ v.value }
  else if v.kind = 3 then
    if (at2 s.commits v.view v.from_).isSome then none else some { s with commits := set2 s.commits v.view v.from_ v.value }
  else if v.kind = 5 then
    if (at2 s.turns v.view v.from_).isSome then none else some { s with turns := set2 s.turns v.view v.from_ v.value }
  else if (getV s.deciders v.from_).isSome then none else some { s with deciders := setV s.deciders v.from_ v.value }

def St.note (s : St) (v : Vt) : St :=
  if v.kind = 4 then s else { s with seen := setV s.seen v.from_ (max ((getV s.seen v.from_).getD 0) v.view) }

/-- What a peer told comes: none: it isn't taken; else what is known then (all that can be done is done behind it). -/
def St.hear (s : St) (v : Vt) : Option St :=
  if v.slot != s.slot || decide (s.n < v.from_) || v.from_ == s.me || !v.right then none else (s.know v).map (·.note v)

end Go.Proofs.Ytiofkiaibcmdhaa
