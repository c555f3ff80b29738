import Derived.WalkKit
import Derived.KernelRfl
import Derived.Deep.QuietTactic
import Derived.BigQuiet
namespace Go.Proofs.Ytiofkiaibcmdhaa
open Go

/-- What a later world has more. -/
structure More where
  os : Array Obj
  d : Nat
  deriving Inhabited

/-- A later world: new blocks behind the old ones, some draws. -/
def later (w : World) (x : More) : World := { w with heap := w.heap ++ x.os, drawn := x.d }

/-- A world of which this one is the beginning: whatever lay in a block lies there still. -/
def Ext (w w' : World) : Prop := ∃ x, w' = later w x

theorem Ext.refl (w : World) : Ext w w := ⟨⟨#[], w.drawn⟩, by simp [later]⟩
theorem Ext.trans {a b c : World} (h : Ext a b) (k : Ext b c) : Ext a c := by
  obtain ⟨⟨o1, d1⟩, rfl⟩ := h
  obtain ⟨⟨o2, d2⟩, rfl⟩ := k
  exact ⟨⟨o1 ++ o2, d2⟩, by simp [later, Array.append_assoc]⟩
theorem Ext.drew (w : World) : Ext w w.drew := ⟨⟨#[], w.drawn + 1⟩, by unfold later; rw [Array.append_empty]; rfl⟩

section
variable {P : Program} {ops : Array Oper} {md : Region.Mode}

/-- What one operation yields in this and every later world, leaving the world alone. -/
def Steady (P : Program) (ops : Array Oper) (w : World) (o : Oper) (v : Value) (a : Act) : Prop :=
  (Region.wanted o (yielded ops a.tmps) = true ∧ ∀ w', Ext w w' → (execOp a.eval o).run P w' = .ok (.value v) w') ∨
  (Region.wanted o (yielded ops a.tmps) = false ∧ v = undef)

theorem Steady.later {w w' : World} {o : Oper} {v : Value} {a : Act} (h : Steady P ops w o v a) (hE : Ext w w') : Steady P ops w' o v a := by
  rcases h with ⟨h1, h2⟩ | h
  · exact .inl ⟨h1, fun x hx => h2 x (hE.trans hx)⟩
  · exact .inr h

/-- 'i' comes behind 'j' in every order. -/
def behind (md : Region.Mode) (ops : Array Oper) : Nat → Nat → Nat → Bool
  | 0, _, _ => false
  | n + 1, i, j => match ops[i]? with
    | some o => o.after.any fun e => Region.binds md e && (e.on == j || behind md ops n e.on j)
    | none => false

/-- What is listed is listed with all that it waits for. -/
def Shut (md : Region.Mode) (ops : Array Oper) (listed : Array Bool) : Prop :=
  ∀ i o, ops[i]? = some o → listed.getD i false = true → ∀ e ∈ o.after, Region.binds md e = true → listed.getD e.on false = true

theorem behind_unlisted {listed : Array Bool} (hs : Shut md ops listed) {j : Nat} (hj : listed.getD j false = false) :
    ∀ n i, behind md ops n i j = true → listed.getD i false = false := by
  intro n
  induction n with
  | zero => intro i h; simp [behind] at h
  | succ n ih =>
    intro i h
    simp only [behind] at h
    cases ho : ops[i]? with
    | none => simp [ho] at h
    | some o =>
      simp only [ho] at h
      obtain ⟨e, he, hb⟩ := Array.any_eq_true'.1 h
      simp only [Bool.and_eq_true, Bool.or_eq_true, beq_iff_eq] at hb
      cases hl : listed.getD i false with
      | false => rfl
      | true =>
        have h1 := hs i o ho hl e he hb.1
        rcases hb.2 with h2 | h2
        · rw [h2] at h1; rw [h1] at hj; cases hj
        · rw [ih _ h2] at h1; cases h1

theorem ready_shut {listed : Array Bool} (hs : Shut md ops listed) {i : Nat} (hi : i ∈ Region.ready md ops listed) : Shut md ops (listed.setIfInBounds i true) := by
  obtain ⟨h0, o, ho, hall⟩ := mem_ready.1 hi
  intro k ok hk hl e he hb
  by_cases hik : i = k
  · subst hik
    rw [ho] at hk
    cases hk
    exact getD_set_true (hall e he hb)
  · rw [getD_set_ne false hik] at hl
    exact getD_set_true (hs k ok hk hl e he hb)

theorem not_ready_of_behind {listed : Array Bool} (hs : Shut md ops listed) {j : Nat} (hj : listed.getD j false = false) {n i : Nat} (h : behind md ops n i j = true) : i ∉ Region.ready md ops listed := by
  intro hi
  obtain ⟨h0, o, ho, hall⟩ := mem_ready.1 hi
  cases n with
  | zero => simp [behind] at h
  | succ n =>
    simp only [behind, ho] at h
    obtain ⟨e, he, hb⟩ := Array.any_eq_true'.1 h
    simp only [Bool.and_eq_true, Bool.or_eq_true, beq_iff_eq] at hb
    have h1 := hall e he hb.1
    rcases hb.2 with h2 | h2
    · rw [h2] at h1; rw [h1] at hj; cases hj
    · rw [behind_unlisted hs hj _ _ h2] at h1; cases h1

/-- Whatever order is picked from here on. 'b': a world of which that at hand is a later one; what has been taken first reads of it alone; an operation that is not 'wild' leaves a later one of it. -/
def wpAnyS (P : Program) (md : Region.Mode) (ops : Array Oper) (wild : Nat → Bool) (Q : Exit → Act → World → Prop) : Nat → Array Bool → Act → World → World → Prop
  | 0, listed, a, _, w => Region.ready md ops listed = [] ∧ Q .normal a w
  | fuel + 1, listed, a, b, w =>
    (Region.ready md ops listed = [] → Q .normal a w) ∧
    ∀ i ∈ Region.ready md ops listed, wpOp P ops Q i (fun a' w' => ∃ b', (wild i = false → Ext b b') ∧ Ext b' w' ∧ wpAnyS P md ops wild Q fuel (listed.setIfInBounds i true) a' b' w') a w

theorem wpAny_of_S {wild : Nat → Bool} {Q : Exit → Act → World → Prop} : ∀ (fuel : Nat) (listed : Array Bool) (a : Act) (b w : World), wpAnyS P md ops wild Q fuel listed a b w → wpAny P md ops Q fuel listed a w
  | 0, _, _, _, _, h => h
  | fuel + 1, _, _, _, _, h => ⟨h.1, fun i hi => wpOp_mono (fun a' w' h' => let ⟨b', _, _, h3⟩ := h'; wpAny_of_S fuel _ a' b' w' h3) (h.2 i hi)⟩

theorem Steady.same {w : World} {o : Oper} {v : Value} {a a' : Act} (hy : Steady P ops w o v a) (he : execOp a'.eval o = execOp a.eval o)
    (hw : Region.wanted o (yielded ops a'.tmps) = Region.wanted o (yielded ops a.tmps)) : Steady P ops w o v a' := by
  unfold Steady at *
  rw [he, hw]
  exact hy

theorem Steady.op {b w : World} {i : Nat} {o : Oper} {v : Value} {a : Act} {Q : Exit → Act → World → Prop} (hi : ops[i]? = some o) (hbw : Ext b w) (hy : Steady P ops b o v a) {K : Act → World → Prop} (h : K (a.put o.dst v) w) : wpOp P ops Q i K a w := by
  unfold wpOp
  simp only [hi]
  rcases hy with ⟨hw, hv⟩ | ⟨hw, rfl⟩
  · simp only [hw, if_true, Oper.wp, hv w hbw, Oper.upon]; exact .inl h
  · simp only [hw, Bool.false_eq_true, if_false]; exact h

/-- 'oj' behind 'oi''s value, 'oi' still to come: it makes no odds. -/
theorem swap_op {b w : World} {j : Nat} {oi oj : Oper} {v : Value} {Q : Exit → Act → World → Prop} (hj : ops[j]? = some oj) (hap : oi.apart ops oj = true)
    (hsi : ∀ cs b, oi.op ≠ .select cs b) (hsj : ∀ cs b, oj.op ≠ .select cs b)
    (hQ : ∀ c a d u w, Q (.panic c) (Act.put a d u) w → Q (.panic c) a w) {K K' : Act → World → Prop} {a : Act}
    (hy : Steady P ops b oi v a) (hK : ∀ a' w', Steady P ops b oi v a' → K (a'.put oi.dst v) w' → K' a' w')
    (h : wpOp P ops Q j K (a.put oi.dst v) w) : wpOp P ops Q j K' a w := by
  obtain ⟨h1, h2, h3⟩ := Oper.apart_spec hap
  have keep : ∀ (a : Act), Steady P ops b oi v a → ∀ u, Steady P ops b oi v (a.put oj.dst u) := fun a hy u =>
    hy.same (execOp_put oi hsi a oj.dst u h3) (wanted_put oi a oj.dst u h3)
  have keepD : ∀ d, Steady P ops b oi v { a with defers := d :: a.defers } := fun d => hy.same rfl rfl
  unfold wpOp at *
  simp only [hj] at *
  rw [wanted_put oj a oi.dst v h1] at h
  by_cases hw : Region.wanted oj (yielded ops a.tmps) = true
  · simp only [hw, if_true] at h ⊢
    rcases h with h | ⟨hasks, hlets⟩
    · refine .inl ?_
      unfold Oper.wp at *
      rw [execOp_put oj hsj a oi.dst v h1] at h
      generalize (execOp a.eval oj).run P w = r at *
      cases r with
      | ok n w' =>
        cases n <;> simp only [Oper.upon] at h ⊢
        case value u => exact hK _ _ (keep a hy u) (by rw [← Act.put_comm a v u h2]; exact h)
        case skip => exact hK _ _ (keep a hy _) (by rw [← Act.put_comm a v undef h2]; exact h)
        case defer d =>
          refine hK _ _ (keep _ (keepD d) _) ?_
          rw [← Act.put_comm _ v undef h2, ← Act.put_defers]
          exact h
        case enter f args =>
          refine Calls.mono h fun e w'' he => ?_
          cases e with
          | returned u => exact hK _ _ (keep a hy u) (by rw [← Act.put_comm a v u h2]; exact he)
          | panicked c => exact hQ _ _ _ _ _ he
          | outgrown => exact he
        case row row args => exact Rows.mono h fun u w'' he => hK _ _ (keep a hy u) (by rw [← Act.put_comm a v u h2]; exact he)
      | halt x w' =>
        cases x <;> simp only [Oper.upon] at h ⊢
        case panic u => exact hQ _ _ _ _ _ h
    · exact .inr ⟨by unfold Oper.asks at *; rw [execOp_put oj hsj a oi.dst v h1] at hasks; exact hasks, hlets⟩
  · simp only [hw] at h ⊢
    exact hK _ _ (keep a hy _) (by rw [← Act.put_comm a v undef h2]; exact h)

/-- One that may come now, and is steady, may be taken first; the wild ones all come behind it. -/
theorem wpAnyS_first {wild : Nat → Bool} {Q : Exit → Act → World → Prop} {i : Nat} {oi : Oper} {v : Value} (hi : ops[i]? = some oi) (hsel : ∀ (j : Nat) (o : Oper) cs b, ops[j]? = some o → o.op ≠ .select cs b)
    (hQ : ∀ c a d u w, Q (.panic c) (Act.put a d u) w → Q (.panic c) a w) (N : Nat) :
    ∀ (fuel : Nat) (listed : Array Bool) (a : Act) (b w : World), Ext b w → Shut md ops listed →
      (∀ j oj, ops[j]? = some oj → j ≠ i → listed.getD j true = false → (∀ e ∈ oj.after, Region.binds md e = true → e.on ≠ i) → oi.apart ops oj = true) →
      (∀ j, j < ops.size → wild j = true → listed.getD j true = false → behind md ops N j i = true) →
      i ∈ Region.ready md ops listed → Steady P ops b oi v a →
      wpAnyS P md ops wild Q fuel (listed.setIfInBounds i true) (a.put oi.dst v) b w → wpAnyS P md ops wild Q (fuel + 1) listed a b w := by
  intro fuel
  induction fuel with
  | zero =>
    intro listed a b w hbw _ _ _ hr hy H
    refine ⟨fun h => (by rw [h] at hr; cases hr), fun j hj => ?_⟩
    by_cases hji : j = i
    · subst hji; exact hy.op hi hbw ⟨b, fun _ => Ext.refl _, hbw, H⟩
    · have := ready_mono hj hji
      rw [H.1] at this
      cases this
  | succ fuel ih =>
    intro listed a b w hbw hshut hfree hwild hr hy H
    have hil : listed.getD i false = false := by
      have := (mem_ready.1 hr).1
      rcases Nat.lt_or_ge i listed.size with h' | h'
      · simpa [h'] using this
      · simp [Array.getElem?_eq_none h'] at this
    refine ⟨fun h => (by rw [h] at hr; cases hr), fun j hj => ?_⟩
    by_cases hji : j = i
    · subst hji; exact hy.op hi hbw ⟨b, fun _ => Ext.refl _, hbw, H⟩
    · have h1 := H.2 j (ready_mono hj hji)
      obtain ⟨hjun, oj, hoj, hall⟩ := mem_ready.1 hj
      have hnw : wild j = false := by
        cases hwj : wild j with
        | false => rfl
        | true => exact absurd hj (not_ready_of_behind hshut hil (hwild j (Array.getElem?_eq_some_iff.1 hoj).1 hwj hjun))
      have hnot : ∀ e ∈ oj.after, Region.binds md e = true → e.on ≠ i := fun e he hb heq => by
        have h1 := hall e he hb
        rw [heq, hil] at h1
        cases h1
      refine swap_op hoj (hfree j oj hoj hji hjun hnot) (fun cs b => hsel i oi cs b hi) (fun cs b => hsel j oj cs b hoj) hQ hy ?_ h1
      rintro a' w' hy' ⟨b', hE, hbw', h3⟩
      refine ⟨b', hE, hbw', ih (listed.setIfInBounds j true) a' b' w' hbw' (ready_shut hshut hj) ?_ ?_ (ready_mono hr (Ne.symm hji)) (hy'.later (hE hnw)) ?_⟩
      · intro k ok hk hki hun hno
        refine hfree k ok hk hki ?_ hno
        by_cases hjk : j = k
        · subst hjk; exact hjun
        · rw [getD_set_ne true hjk] at hun; exact hun
      · intro k hks hk hun
        refine hwild k hks hk ?_
        by_cases hjk : j = k
        · subst hjk; exact hjun
        · rw [getD_set_ne true hjk] at hun; exact hun
      · rw [Array.setIfInBounds_comm _ _ hji]
        exact h3

/-- It yields a value, and enters no function. -/
def plainOp : Op → Bool
  | .move _ | .assign _ | .pick .. | .load .. | .nilCheck _ | .binOp .. | .unOp .. | .convert .. | .slice .. | .fieldAddr .. | .field .. | .indexAddr .. | .index .. | .lookup .. | .extract .. | .makeInterface .. | .makeFunc .. | .build .. => true
  | .call { callee := .builtin .len, .. } | .call { callee := .builtin .max, .. } | .call { callee := .builtin .min, .. } => true
  | _ => false

theorem value_only {s : Sem Value} {w w1 : World} {n : Next} (h : (do pure (Next.value (← s)) : Sem Next).run P w = .ok n w1) : ∃ v, n = .value v := by
  rw [Sem.run_bind] at h
  cases hr : s.run P w with
  | ok a w2 => rw [hr] at h; simp at h; exact ⟨a, h.1.symm⟩
  | halt e w2 => rw [hr] at h; simp at h

theorem plain_value {o : Oper} (ho : plainOp o.op = true) {ev : Operand → Value} {w w1 : World} {n : Next} (h : (execOp ev o).run P w = .ok n w1) : ∃ v, n = .value v := by
  obtain ⟨dst, op, type, pos, after, guard⟩ := o
  cases op <;> simp only [plainOp, Bool.false_eq_true] at ho <;> simp only [execOp] at h
  case move => simp at h; exact ⟨_, h.1.symm⟩
  case assign => simp at h; exact ⟨_, h.1.symm⟩
  case nilCheck x =>
    revert h
    split <;> intro h
    · simp [runtimePanic, goPanic] at h
    · simp [runtimePanic, goPanic] at h
    · simp [runtimePanic, goPanic] at h
    · rename_i name first captured
      revert h
      split <;> intro h
      · simp [runtimePanic, goPanic] at h
      · simp only [Sem.run_bind] at h
        revert h
        generalize (Sem.run P program w) = r
        cases r with
        | halt => simp
        | ok p w2 =>
          simp only [Result.andThen_ok]
          generalize (Sem.run P (nilAhead _ _ _ _) w2) = r
          cases r with
          | halt => simp
          | ok q w3 =>
            simp only [Result.andThen_ok]
            split <;> simp
            intro hn _
            exact ⟨_, hn.symm⟩
      · simp at h; exact ⟨_, h.1.symm⟩
    · simp at h; exact ⟨_, h.1.symm⟩
  case call c =>
    obtain ⟨callee, args, ats⟩ := c
    cases callee with
    | builtin b =>
      cases b <;> simp only [Bool.false_eq_true] at ho
      all_goals simp only [resolve, pure_bind, invoke, builtin] at h <;> exact value_only h
    | value f => simp at ho
    | invoke r m => simp at ho
  case pick c x y =>
    rw [Sem.run_bind] at h
    cases hr : (asBool (ev c)).run P w with
    | ok b w2 => rw [hr] at h; simp at h; exact ⟨_, h.1.symm⟩
    | halt e w2 => rw [hr] at h; simp at h
  all_goals exact value_only h

/-- What the lexical walk of quiet operations says of one of them. -/
theorem steady_of_quiet {w : World} {o : Oper} {a : Act} {K : Act → Prop} (ho : plainOp o.op = true)
    (h : if Region.wanted o (yielded ops a.tmps) then o.quiet P a (Ext w) K else K (a.put o.dst undef)) : ∃ v, Steady P ops w o v a ∧ K (a.put o.dst v) := by
  by_cases hw : Region.wanted o (yielded ops a.tmps) = true
  · rw [if_pos hw] at h
    obtain ⟨v, h1, h2⟩ := h
    refine ⟨v, .inl ⟨hw, fun w' hE => ?_⟩, h2⟩
    have h3 := h1 w' hE
    unfold Oper.quietAt at h3
    cases hr : (execOp a.eval o).run P w' with
    | halt e w2 => rw [hr] at h3; exact h3.elim
    | ok n w2 =>
      obtain ⟨u, rfl⟩ := plain_value ho hr
      rw [hr] at h3
      obtain ⟨rfl, rfl⟩ := h3
      rfl
  · rw [if_neg hw] at h
    exact ⟨undef, .inr ⟨by simpa using hw, rfl⟩, h⟩

def NoExit : Exit → Act → World → Prop := fun _ _ _ => False

theorem Oper.wp_of_noExit {o : Oper} {a : Act} {w : World} {K : Act → World → Prop} {Q : Exit → Act → World → Prop} (h : o.wp P a w K NoExit) : o.wp P a w K Q := by
  unfold Oper.wp at *
  generalize (execOp a.eval o).run P w = r at *
  cases r with
  | ok n w' =>
    cases n <;> simp only [Oper.upon] at h ⊢
    case enter f args =>
      refine Calls.mono h fun e w'' he => ?_
      cases e with
      | returned u => exact he
      | panicked c => exact he.elim
      | outgrown => obtain ⟨_, _, he⟩ := he; exact he.elim
    all_goals exact h
  | halt x w' =>
    cases x <;> simp only [Oper.upon] at h ⊢
    case panic u => exact h.elim

/-- One call, or what else leaves a later world than 'b', and what follows: from a new 'b' on. -/
def liveAt (P : Program) (ops : Array Oper) (o : Oper) (next : Act → World → World → Prop) (a : Act) (b w : World) : Prop :=
  if Region.wanted o (yielded ops a.tmps) then o.wp P a w (fun a' w' => ∃ b', Ext b b' ∧ Ext b' w' ∧ next a' b' w') NoExit else next (a.put o.dst undef) b w

/-- The walk of a region in pieces: operations that only read, one that leaves a later world, operations that only read ..; at the end those that read, and then the rest in the one order that there is. -/
def wpSegs (P : Program) (ops : Array Oper) (Q : Exit → Act → World → Prop) (fin : List Oper × List Oper) : List (List Oper × Oper) → Act → World → World → Prop
  | [], a, b, w => wpQuiet P ops (Ext b) (fun a1 => wpList P ops Q fin.2 a1 w) fin.1 a
  | (l, o) :: rest, a, b, w => wpQuiet P ops (Ext b) (fun a1 => liveAt P ops o (wpSegs P ops Q fin rest) a1 b w) l a

def takesB (md : Region.Mode) (ops : Array Oper) (wild : List Nat) (i : Nat) (listed : Array Bool) : Bool :=
  (match ops[i]? with | some o => plainOp o.op | none => false) && Region.free md ops listed i && (Region.ready md ops listed).contains i && wild.all fun j => listed.getD j true || behind md ops ops.size j i

def segsB (md : Region.Mode) (ops : Array Oper) (wild : List Nat) : List (List Nat × Nat) → List Nat → List Nat → Array Bool → Bool
  | [], [], [], listed => Region.ready md ops listed == []
  | [], [], j :: t, listed => (Region.ready md ops listed == [j]) && segsB md ops wild [] [] t (listed.setIfInBounds j true)
  | [], i :: l, t, listed => takesB md ops wild i listed && segsB md ops wild [] l t (listed.setIfInBounds i true)
  | ([], j) :: rest, l, t, listed => (Region.ready md ops listed == [j]) && !wild.contains j && segsB md ops wild rest l t (listed.setIfInBounds j true)
  | (i :: q, j) :: rest, l, t, listed => takesB md ops wild i listed && segsB md ops wild ((q, j) :: rest) l t (listed.setIfInBounds i true)
termination_by p l t => (p.map (fun x => x.1.length + 1)).sum + l.length + t.length

def nthO : List Oper → Nat → Oper
  | [], _ => default
  | o :: _, 0 => o
  | _ :: l, n + 1 => nthO l n
def pickO (l : List Oper) : List Nat → List Oper
  | [] => []
  | i :: r => nthO l i :: pickO l r
def pickS (l : List Oper) : List (List Nat × Nat) → List (List Oper × Oper)
  | [] => []
  | (q, j) :: r => (pickO l q, nthO l j) :: pickS l r

theorem nthO_eq : ∀ (l : List Oper) (i : Nat) (o : Oper), l[i]? = some o → nthO l i = o
  | [], _, _, h => by simp at h
  | o :: _, 0, _, h => by simpa [nthO] using h
  | _ :: l, n + 1, o, h => by simpa [nthO] using nthO_eq l n o (by simpa using h)

def cntS (p : List (List Nat × Nat)) (q t : List Nat) : Nat := (p.map (fun x => x.1.length + 1)).sum + q.length + t.length

theorem segs_any {L : List Oper} {Q : Exit → Act → World → Prop} {wild : List Nat} (hs : Region.noSelect L.toArray = true)
    (hQ : ∀ c a d u w, Q (.panic c) (Act.put a d u) w → Q (.panic c) a w) :
    ∀ (n : Nat) (p : List (List Nat × Nat)) (q t : List Nat) (listed : Array Bool) (a : Act) (b w : World), Ext b w → cntS p q t = n → segsB md L.toArray wild p q t listed = true →
      Shut md L.toArray listed → (∀ j ∈ t, wild.contains j = true) → wpSegs P L.toArray Q (pickO L q, pickO L t) (pickS L p) a b w →
      wpAnyS P md L.toArray (fun j => wild.contains j) Q n listed a b w := by
  have take : ∀ (n i : Nat) (listed : Array Bool) (a : Act) (b w : World) (K : Act → Prop), Ext b w → takesB md L.toArray wild i listed = true → Shut md L.toArray listed →
      (if Region.wanted (nthO L i) (yielded L.toArray a.tmps) then (nthO L i).quiet P a (Ext b) K else K (a.put (nthO L i).dst undef)) →
      (∀ a', K a' → wpAnyS P md L.toArray (fun j => wild.contains j) Q n (listed.setIfInBounds i true) a' b w) →
      wpAnyS P md L.toArray (fun j => wild.contains j) Q (n + 1) listed a b w := by
    intro n i listed a b w K hbw hB hsh h hnext
    simp only [takesB, Bool.and_eq_true] at hB
    obtain ⟨⟨⟨h1, h2⟩, h3⟩, h4⟩ := hB
    cases ho : L.toArray[i]? with
    | none => rw [ho] at h1; simp at h1
    | some o =>
      rw [ho] at h1
      have hn : nthO L i = o := nthO_eq L i o (by simpa using ho)
      rw [hn] at h
      obtain ⟨v, hy, hk⟩ := steady_of_quiet h1 h
      refine wpAnyS_first ho (Region.noSelect_spec hs) hQ L.toArray.size n listed a b w hbw hsh (Region.free_spec ho h2) ?_ (by simpa using h3) hy (hnext _ hk)
      intro j hj hw hun
      have h5 := List.all_eq_true.1 h4 j (by simpa using hw)
      simpa [hun] using h5
  intro n
  induction n with
  | zero =>
    intro p q t listed a b w hbw hc hB hsh ht h
    have hp : p = [] := by cases p with | nil => rfl | cons x r => simp [cntS] at hc
    have hq : q = [] := by cases q with | nil => rfl | cons x r => simp [cntS] at hc
    have htt : t = [] := by cases t with | nil => rfl | cons x r => simp [cntS] at hc
    subst hp; subst hq; subst htt
    rw [segsB] at hB
    exact ⟨by simpa using hB, h⟩
  | succ n ih =>
    intro p q t listed a b w hbw hc hB hsh ht h
    cases p with
    | nil =>
      cases q with
      | nil =>
        cases t with
        | nil => simp [cntS] at hc
        | cons j t =>
          rw [segsB] at hB
          simp only [Bool.and_eq_true] at hB
          obtain ⟨h1, h2⟩ := hB
          have hr : Region.ready md L.toArray listed = [j] := by simpa using h1
          refine ⟨fun h0 => (by rw [h0] at hr; cases hr), fun i hi => ?_⟩
          rw [hr] at hi
          obtain rfl : i = j := by simpa using hi
          have hmem : i ∈ Region.ready md L.toArray listed := by rw [hr]; simp
          obtain ⟨_, o, ho, _⟩ := mem_ready.1 hmem
          have hn : nthO L i = o := nthO_eq L i o (by simpa using ho)
          simp only [wpSegs, pickS, pickO, wpQuiet, wpList, hn] at h
          unfold wpOp
          simp only [ho]
          have next : ∀ a' w', wpList P L.toArray Q (pickO L t) a' w' → ∃ b', (wild.contains i = false → Ext b b') ∧ Ext b' w' ∧ wpAnyS P md L.toArray (fun j => wild.contains j) Q n (listed.setIfInBounds i true) a' b' w' := by
            intro a' w' hk
            refine ⟨w', fun hw => ?_, Ext.refl _, ih [] [] t _ a' w' w' (Ext.refl _) (by simp [cntS] at hc ⊢; omega) h2 (ready_shut hsh hmem) (fun k hk => ht k (by simp [hk])) (by simpa only [wpSegs, pickS, pickO, wpQuiet] using hk)⟩
            rw [ht i (by simp)] at hw
            cases hw
          by_cases hw : Region.wanted o (yielded L.toArray a.tmps) = true
          · simp only [hw, if_true] at h ⊢
            exact h.imp (Oper.wp_mono next) id
          · simp only [hw] at h ⊢
            exact next _ _ h
      | cons i q =>
        rw [segsB] at hB
        simp only [Bool.and_eq_true] at hB
        simp only [wpSegs, pickS, pickO, wpQuiet] at h
        refine take n i listed a b w _ hbw hB.1 hsh h fun a' hk => ih [] q t _ a' b w hbw (by simp [cntS] at hc ⊢; omega) hB.2 (ready_shut hsh ?_) ht (by simpa only [wpSegs, pickS] using hk)
        have := hB.1
        simp only [takesB, Bool.and_eq_true] at this
        simpa using this.1.2
    | cons s p =>
      obtain ⟨l, j⟩ := s
      cases l with
      | nil =>
        rw [segsB] at hB
        simp only [Bool.and_eq_true, Bool.not_eq_true'] at hB
        obtain ⟨⟨h1, h3⟩, h2⟩ := hB
        have hr : Region.ready md L.toArray listed = [j] := by simpa using h1
        refine ⟨fun h0 => (by rw [h0] at hr; cases hr), fun i hi => ?_⟩
        rw [hr] at hi
        obtain rfl : i = j := by simpa using hi
        have hmem : i ∈ Region.ready md L.toArray listed := by rw [hr]; simp
        obtain ⟨_, o, ho, _⟩ := mem_ready.1 hmem
        have hn : nthO L i = o := nthO_eq L i o (by simpa using ho)
        simp only [wpSegs, pickS, pickO, wpQuiet, liveAt, hn] at h
        unfold wpOp
        simp only [ho]
        have next : ∀ a' b' w', Ext b' w' → wpSegs P L.toArray Q (pickO L q, pickO L t) (pickS L p) a' b' w' → wpAnyS P md L.toArray (fun j => wild.contains j) Q n (listed.setIfInBounds i true) a' b' w' := by
          intro a' b' w' hb' hk
          exact ih p q t _ a' b' w' hb' (by simp [cntS] at hc ⊢; omega) h2 (ready_shut hsh hmem) ht hk
        by_cases hw : Region.wanted o (yielded L.toArray a.tmps) = true
        · simp only [hw, if_true] at h ⊢
          exact .inl (Oper.wp_mono (fun a' w' ⟨b', h1, h2, h3⟩ => ⟨b', fun _ => h1, h2, next a' b' w' h2 h3⟩) (Oper.wp_of_noExit h))
        · simp only [hw] at h ⊢
          exact ⟨b, fun _ => Ext.refl _, hbw, next _ _ _ hbw h⟩
      | cons i l =>
        rw [segsB] at hB
        simp only [Bool.and_eq_true] at hB
        simp only [wpSegs, pickS, pickO, wpQuiet] at h
        refine take n i listed a b w _ hbw hB.1 hsh h fun a' hk => ih ((l, j) :: p) q t _ a' b w hbw (by simp [cntS] at hc ⊢; omega) hB.2 (ready_shut hsh ?_) ht (by simpa only [wpSegs, pickS] using hk)
        have := hB.1
        simp only [takesB, Bool.and_eq_true] at this
        simpa using this.1.2

/-- **A region that draws its order, walked in pieces in one order.** -/
theorem wp_region_segs {id : Nat} {L : List Oper} {Q : Exit → Act → World → Prop} {a : Act} {w : World} (hm : P.follows .mixedOrders = true)
    (p : List (List Nat × Nat)) (q t : List Nat) (hB : (cntS p q t == L.length && Region.noSelect L.toArray && segsB .any L.toArray t p q t (Array.replicate L.toArray.size false)) = true)
    (hQ : ∀ c a d u w, Q (.panic c) (Act.put a d u) w → Q (.panic c) a w)
    (h : wpSegs P L.toArray Q (pickO L q, pickO L t) (pickS L p) a w.drew w.drew) : (Code.region id L.toArray true).wp P Q a w := by
  simp only [Bool.and_eq_true, beq_iff_eq] at hB
  obtain ⟨⟨h1, h2⟩, h3⟩ := hB
  refine wp_region_any hm (wpAny_of_S (wild := fun j => t.contains j) _ _ _ w.drew _ ?_)
  have hsh : Shut .any L.toArray (Array.replicate L.toArray.size false) := by
    intro i o hi hl
    have : i < L.toArray.size := (Array.getElem?_eq_some_iff.1 hi).1
    simp at this
    simp [this] at hl
  have := segs_any (P := P) (md := .any) h2 hQ L.length p q t _ a w.drew w.drew (Ext.refl _) h1 h3 hsh (fun j hj => by simpa using hj) h
  simpa using this
end
end Go.Proofs.Ytiofkiaibcmdhaa
