import Derived.Test.YtiofkiaibcmdhaaBase
namespace Go.Proofs.Ytiofkiaibcmdhaa
open Go Go.RowKit

/-! ### what a step may turn -/

/-- Of the old blocks none has turned but those of S. -/
structure Turn (S : List Nat) (w w' : World) : Prop where
  os : w'.os = w.os
  tape : w'.tape = w.tape
  output : w'.output = w.output
  size : w.heap.size ≤ w'.heap.size
  block : ∀ (k : Nat), k ∉ S → ∀ (o : Obj), w.heap[k]? = some o → w'.heap[k]? = some o

theorem Turn.refl (S : List Nat) (w : World) : Turn S w w := ⟨rfl, rfl, rfl, Nat.le_refl _, fun _ _ _ h => h⟩
theorem Turn.trans {S T : List Nat} {a b c : World} (h : Turn S a b) (k : Turn T b c) (hT : ∀ x ∈ T, x ∈ S ∨ a.heap.size ≤ x) : Turn S a c := by
  refine ⟨k.os.trans h.os, k.tape.trans h.tape, k.output.trans h.output, Nat.le_trans h.size k.size, fun i hi o ho => ?_⟩
  have hlt := (Array.getElem?_eq_some_iff.1 ho).1
  refine k.block i (fun hT' => ?_) o (h.block i hi o ho)
  rcases hT i hT' with h1 | h1
  · exact hi h1
  · omega
theorem Turn.mono {S T : List Nat} {a b : World} (h : Turn S a b) (hST : ∀ x ∈ S, x ∈ T) : Turn T a b :=
  ⟨h.os, h.tape, h.output, h.size, fun i hi o ho => h.block i (fun hs => hi (hST i hs)) o ho⟩
theorem Ext.size {w w' : World} (h : Ext w w') : w.heap.size ≤ w'.heap.size := by
  obtain ⟨x, rfl⟩ := h
  simp [later]
theorem Ext.turn {w w' : World} (h : Ext w w') (S : List Nat) : Turn S w w' := by
  have hs := h.size
  refine ⟨?_, ?_, ?_, hs, fun k _ o ho => h.heap ho⟩ <;> (obtain ⟨x, rfl⟩ := h; rfl)
theorem Turn.put (w : World) (r : Nat) (o : Obj) : Turn [r] w (putB w r o) :=
  ⟨rfl, rfl, rfl, by simp [putB], fun k hk x hx => by
    simp only [List.mem_singleton] at hk
    show (w.heap.setIfInBounds r o)[k]? = some x
    rw [Array.getElem?_setIfInBounds_ne (fun e => hk e.symm)]
    exact hx⟩
theorem Turn.setCell (w : World) (a : Addr) (v : Value) : Turn [a.block] w (w.setCell a v) :=
  ⟨rfl, rfl, rfl, by simp [World.setCell], fun k hk x hx => by
    simp only [List.mem_singleton] at hk
    rw [Below.heap_setCell _ _ _ _ hk]
    exact hx⟩
theorem Turn.below {S : List Nat} {w w' : World} {B : Nat} (h : Turn S w w') (hB : B ≤ w.heap.size) (hS : ∀ x ∈ S, B ≤ x) : Below B w w' := by
  refine ⟨h.os, h.tape, h.output, h.size, fun k hk => ?_⟩
  have hlt : k < w.heap.size := by omega
  obtain ⟨o, ho⟩ : ∃ o, w.heap[k]? = some o := ⟨_, Array.getElem?_eq_getElem hlt⟩
  rw [ho]
  exact h.block k (fun hs => by have := hS k hs; omega) o ho
theorem putB_same {w : World} {r : Nat} {o : Obj} (h : r < w.heap.size) : (putB w r o).heap[r]? = some o := by
  show (w.heap.setIfInBounds r o)[r]? = some o
  simp [h]

/-- None of these blocks is a row of bytes. -/
def NoByte (w : World) (S : List Nat) : Prop := ∀ (k : Nat), k ∈ S → ∀ cs fz, w.heap[k]? ≠ some (.cells cs 5 fz)

theorem BB.turn {S : List Nat} {w w' : World} {a : Option Addr} {l : List UInt8} (h : BB w a l) (hT : Turn S w w') (hS : NoByte w S) : BB w' a l := by
  cases a with
  | none => exact h
  | some p =>
    obtain ⟨hs, cs, fz, h1, h2⟩ := h
    exact ⟨hs, cs, fz, hT.block _ (fun hk => hS _ hk cs fz h1) _ h1, h2⟩

/-! ### lists of entries that stand for one another -/

def RelL {α : Type} (R : Value → α → Prop) : List (Int × Value) → List (Int × α) → Prop
  | [], [] => True
  | e :: es, p :: t => e.1 = p.1 ∧ R e.2 p.2 ∧ RelL R es t
  | _, _ => False

section
variable {α : Type} {R R' : Value → α → Prop}
theorem RelL.nil : RelL R [] [] := trivial

theorem RelL.get {es : List (Int × Value)} {t : List (Int × α)} (h : RelL R es t) (k : Int) :
    (getV es k = none ∧ getV t k = none) ∨ ∃ v x, getV es k = some v ∧ getV t k = some x ∧ R v x ∧ (k, v) ∈ es := by
  induction es generalizing t with
  | nil => cases t with
    | nil => exact .inl ⟨rfl, rfl⟩
    | cons p t => exact h.elim
  | cons e es ih => cases t with
    | nil => exact h.elim
    | cons p t =>
      obtain ⟨h1, h2, h3⟩ := h
      simp only [getV]
      by_cases hk : e.1 = k
      · rw [if_pos hk, if_pos (h1 ▸ hk)]
        exact .inr ⟨_, _, rfl, rfl, h2, by subst hk; exact List.mem_cons_self ..⟩
      · rw [if_neg hk, if_neg (h1 ▸ hk)]
        rcases ih h3 with h4 | ⟨v, x, h4, h5, h6, h7⟩
        · exact .inl h4
        · exact .inr ⟨v, x, h4, h5, h6, List.mem_cons_of_mem _ h7⟩

theorem RelL.set {es : List (Int × Value)} {t : List (Int × α)} (h : RelL R es t) {k : Int} {v : Value} {x : α} (hv : R v x) : RelL R (setV es k v) (setV t k x) := by
  induction es generalizing t with
  | nil => cases t with
    | nil => exact ⟨rfl, hv, trivial⟩
    | cons p t => exact h.elim
  | cons e es ih => cases t with
    | nil => exact h.elim
    | cons p t =>
      obtain ⟨h1, h2, h3⟩ := h
      simp only [setV]
      by_cases hk : e.1 = k
      · rw [if_pos hk, if_pos (h1 ▸ hk)]
        exact ⟨rfl, hv, h3⟩
      · rw [if_neg hk, if_neg (h1 ▸ hk)]
        exact ⟨h1, h2, ih h3⟩

theorem RelL.mono {es : List (Int × Value)} {t : List (Int × α)} (h : RelL R es t) (hr : ∀ k v x, (k, v) ∈ es → R v x → R' v x) : RelL R' es t := by
  induction es generalizing t with
  | nil => cases t with
    | nil => trivial
    | cons p t => exact h.elim
  | cons e es ih => cases t with
    | nil => exact h.elim
    | cons p t =>
      obtain ⟨h1, h2, h3⟩ := h
      exact ⟨h1, hr e.1 _ _ (List.mem_cons_self ..) h2, ih h3 fun k v x hm => hr k v x (List.mem_cons_of_mem _ hm)⟩

theorem RelL.keys {es : List (Int × Value)} {t : List (Int × α)} (h : RelL R es t) : es.map (·.1) = t.map (·.1) := by
  induction es generalizing t with
  | nil => cases t with
    | nil => rfl
    | cons p t => exact h.elim
  | cons e es ih => cases t with
    | nil => exact h.elim
    | cons p t => obtain ⟨h1, h2, h3⟩ := h; simp only [List.map_cons, h1, ih h3]

theorem RelL.length {es : List (Int × Value)} {t : List (Int × α)} (h : RelL R es t) : es.length = t.length := by
  have := congrArg List.length h.keys
  simpa using this

theorem RelL.at {es : List (Int × Value)} {t : List (Int × α)} (h : RelL R es t) {i : Nat} {p : Int × Value} (hi : es[i]? = some p) : ∃ x, t[i]? = some (p.1, x) ∧ R p.2 x := by
  induction es generalizing t i with
  | nil => simp at hi
  | cons e es ih => cases t with
    | nil => exact h.elim
    | cons q t =>
      obtain ⟨h1, h2, h3⟩ := h
      cases i with
      | zero =>
        simp only [List.getElem?_cons_zero, Option.some.injEq] at hi
        subst hi
        exact ⟨q.2, by simp [h1], h2⟩
      | succ i =>
        simp only [List.getElem?_cons_succ] at hi ⊢
        exact ih h3 hi
end

/-! ### the maps of a core -/

def ByteR (w : World) (v : Value) (l : Bytes) : Prop := ∃ a c, v = .slice a l.length c ∧ BB w a l
def ToldAt (w : World) (r : Nat) (t : Told) : Prop := ∃ es, w.heap[r]? = some (mapObj es) ∧ RelL (ByteR w) es t
def ViewR (w : World) (v : Value) (t : Told) : Prop := ∃ r, v = .map (some r) ∧ ToldAt w r t
def PropR (w : World) (v : Value) (p : Bytes × Int) : Prop := ∃ a c, v = .agg #[.slice a p.1.length c, .int .i64 p.2] ∧ BB w a p.1
def IntR (v : Value) (n : Int) : Prop := v = .int .i64 n

def blockOf : Value → Option Nat
  | .map (some r) => some r
  | _ => none
/-- The blocks of the inner maps. -/
def blocksOf (es : List (Int × Value)) : List Nat := es.filterMap fun e => blockOf e.2

def ViewsAt (w : World) (m : Nat) (F : List Nat) (vs : List (Int × Told)) : Prop := ∃ es, w.heap[m]? = some (mapObj es) ∧ RelL (ViewR w) es vs ∧ F = blocksOf es

theorem ByteR.turn {S : List Nat} {w w' : World} {v : Value} {l : Bytes} (h : ByteR w v l) (hT : Turn S w w') (hS : NoByte w S) : ByteR w' v l := by
  obtain ⟨a, c, h1, h2⟩ := h
  exact ⟨a, c, h1, h2.turn hT hS⟩
theorem ToldAt.turn {S : List Nat} {w w' : World} {r : Nat} {t : Told} (h : ToldAt w r t) (hT : Turn S w w') (hS : NoByte w S) (hr : r ∉ S) : ToldAt w' r t := by
  obtain ⟨es, h1, h2⟩ := h
  exact ⟨es, hT.block r hr _ h1, h2.mono fun _ _ _ _ hx => hx.turn hT hS⟩
theorem mem_blocksOf {es : List (Int × Value)} {k : Int} {r : Nat} (h : (k, Value.map (some r)) ∈ es) : r ∈ blocksOf es :=
  List.mem_filterMap.2 ⟨_, h, rfl⟩
theorem RelL.views_turn {S : List Nat} {w w' : World} {es : List (Int × Value)} {vs : List (Int × Told)} (h : RelL (ViewR w) es vs) (hT : Turn S w w') (hS : NoByte w S) (hd : ∀ r ∈ blocksOf es, r ∉ S) : RelL (ViewR w') es vs :=
  h.mono fun k v x hm ⟨r, hv, ht⟩ => ⟨r, hv, ht.turn hT hS (hd r (mem_blocksOf (k := k) (by rw [← hv]; exact hm)))⟩
theorem ViewsAt.turn {S : List Nat} {w w' : World} {m : Nat} {F : List Nat} {vs : List (Int × Told)} (h : ViewsAt w m F vs) (hT : Turn S w w') (hS : NoByte w S) (hm : m ∉ S) (hd : ∀ r ∈ F, r ∉ S) : ViewsAt w' m F vs := by
  obtain ⟨es, h1, h2, rfl⟩ := h
  exact ⟨es, hT.block m hm _ h1, h2.views_turn hT hS hd, rfl⟩

theorem ViewsAt.noByte {w : World} {m : Nat} {F : List Nat} {vs : List (Int × Told)} (h : ViewsAt w m F vs) : NoByte w (m :: F) := by
  obtain ⟨es, h1, h2, rfl⟩ := h
  intro k hk cs fz
  rcases List.mem_cons.1 hk with rfl | hk
  · rw [h1]; simp [mapObj]
  · obtain ⟨⟨i, v⟩, hmem, hb⟩ := List.mem_filterMap.1 hk
    obtain ⟨j, hj⟩ := List.getElem?_of_mem hmem
    obtain ⟨x, _, r, hv, es', hr, _⟩ := h2.at hj
    simp only at hb hv
    subst hv
    simp only [blockOf, Option.some.injEq] at hb
    subst hb
    rw [hr]
    simp [mapObj]

theorem ViewsAt.lt {w : World} {m : Nat} {F : List Nat} {vs : List (Int × Told)} (h : ViewsAt w m F vs) : ∀ k ∈ m :: F, k < w.heap.size := by
  obtain ⟨es, h1, h2, rfl⟩ := h
  intro k hk
  rcases List.mem_cons.1 hk with rfl | hk
  · exact (Array.getElem?_eq_some_iff.1 h1).1
  · obtain ⟨⟨i, v⟩, hmem, hb⟩ := List.mem_filterMap.1 hk
    obtain ⟨j, hj⟩ := List.getElem?_of_mem hmem
    obtain ⟨x, _, r, hv, es', hr, _⟩ := h2.at hj
    simp only at hb hv
    subst hv
    simp only [blockOf, Option.some.injEq] at hb
    subst hb
    exact (Array.getElem?_eq_some_iff.1 hr).1

theorem blocksOf_setV {es : List (Int × Value)} {k : Int} {r : Nat} (h : getV es k = none) : blocksOf (setV es k (.map (some r))) = blocksOf es ++ [r] := by
  induction es with
  | nil => rfl
  | cons e es ih =>
    simp only [getV] at h
    split at h
    · cases h
    · rename_i hne
      simp only [setV, if_neg hne, blocksOf, List.filterMap_cons]
      have := ih h
      simp only [blocksOf] at this
      rw [this]
      split <;> simp
end Go.Proofs.Ytiofkiaibcmdhaa
