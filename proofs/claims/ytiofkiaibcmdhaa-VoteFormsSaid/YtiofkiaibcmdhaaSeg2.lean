import Derived.Test.YtiofkiaibcmdhaaSeg
namespace Go.Proofs.Ytiofkiaibcmdhaa
open Go

section
variable {P : Program} {ops : Array Oper} {md : Region.Mode}

/-- 'oj' behind 'oi''s value, 'oi' still to come, which reads nothing at all. -/
theorem swap_blind {w : World} {j : Nat} {oi oj : Oper} {v : Value} {Q : Exit → Act → World → Prop} (hj : ops[j]? = some oj) (hap : oi.apart ops oj = true)
    (hsi : ∀ cs b, oi.op ≠ .select cs b) (hsj : ∀ cs b, oj.op ≠ .select cs b)
    (hQ : ∀ c a d u w, Q (.panic c) (Act.put a d u) w → Q (.panic c) a w) {K K' : Act → World → Prop} {a : Act}
    (hy : ∀ b, Steady P ops b oi v a) (hK : ∀ a' w', (∀ b, Steady P ops b oi v a') → K (a'.put oi.dst v) w' → K' a' w')
    (h : wpOp P ops Q j K (a.put oi.dst v) w) : wpOp P ops Q j K' a w := by
  obtain ⟨h1, h2, h3⟩ := Oper.apart_spec hap
  have keep : ∀ (a : Act), (∀ b, Steady P ops b oi v a) → ∀ u, ∀ b, Steady P ops b oi v (a.put oj.dst u) := fun a hy u b =>
    (hy b).same (execOp_put oi hsi a oj.dst u h3) (wanted_put oi a oj.dst u h3)
  have keepD : ∀ d, ∀ b, Steady P ops b oi v { a with defers := d :: a.defers } := fun d b => (hy b).same rfl rfl
  unfold wpOp at *
  simp only [hj] at *
  rw [wanted_put oj a oi.dst v h1] at h
  by_cases hw : Region.wanted oj (yielded ops a.tmps) = true
  · simp only [hw, if_true] at h ⊢
    rcases h with h | ⟨hasks, hlets⟩
    · refine .inl ?_
      unfold Oper.wp at *
      rw [execOp_put oj hsj a oi.dst v h1] at h
      generalize (execOp a.eval oj).run P w = r at *
      cases r with
      | ok n w' =>
        cases n <;> simp only [Oper.upon] at h ⊢
        case value u => exact hK _ _ (keep a hy u) (by rw [← Act.put_comm a v u h2]; exact h)
        case skip => exact hK _ _ (keep a hy _) (by rw [← Act.put_comm a v undef h2]; exact h)
        case defer d =>
          refine hK _ _ (keep _ (keepD d) _) ?_
          rw [← Act.put_comm _ v undef h2, ← Act.put_defers]
          exact h
        case enter f args =>
          refine Calls.mono h fun e w'' he => ?_
          cases e with
          | returned u => exact hK _ _ (keep a hy u) (by rw [← Act.put_comm a v u h2]; exact he)
          | panicked c => exact hQ _ _ _ _ _ he
          | outgrown => exact he
        case row row args => exact Rows.mono h fun u w'' he => hK _ _ (keep a hy u) (by rw [← Act.put_comm a v u h2]; exact he)
      | halt x w' =>
        cases x <;> simp only [Oper.upon] at h ⊢
        case panic u => exact hQ _ _ _ _ _ h
    · exact .inr ⟨by unfold Oper.asks at *; rw [execOp_put oj hsj a oi.dst v h1] at hasks; exact hasks, hlets⟩
  · simp only [hw] at h ⊢
    exact hK _ _ (keep a hy _) (by rw [← Act.put_comm a v undef h2]; exact h)

/-- One that may come now, and reads nothing, may be taken first. -/
theorem wpAnyS_first_blind {wild : Nat → Bool} {Q : Exit → Act → World → Prop} {i : Nat} {oi : Oper} {v : Value} (hi : ops[i]? = some oi) (hsel : ∀ (j : Nat) (o : Oper) cs b, ops[j]? = some o → o.op ≠ .select cs b)
    (hQ : ∀ c a d u w, Q (.panic c) (Act.put a d u) w → Q (.panic c) a w) :
    ∀ (fuel : Nat) (listed : Array Bool) (a : Act) (b w : World), Ext b w → Shut md ops listed →
      (∀ j oj, ops[j]? = some oj → j ≠ i → listed.getD j true = false → (∀ e ∈ oj.after, Region.binds md e = true → e.on ≠ i) → oi.apart ops oj = true) →
      i ∈ Region.ready md ops listed → (∀ b, Steady P ops b oi v a) →
      wpAnyS P md ops wild Q fuel (listed.setIfInBounds i true) (a.put oi.dst v) b w → wpAnyS P md ops wild Q (fuel + 1) listed a b w := by
  intro fuel
  induction fuel with
  | zero =>
    intro listed a b w hbw _ _ hr hy H
    refine ⟨fun h => (by rw [h] at hr; cases hr), fun j hj => ?_⟩
    by_cases hji : j = i
    · subst hji; exact (hy b).op hi hbw ⟨b, fun _ => Ext.refl _, hbw, H⟩
    · have := ready_mono hj hji
      rw [H.1] at this
      cases this
  | succ fuel ih =>
    intro listed a b w hbw hshut hfree hr hy H
    have hil : listed.getD i false = false := by
      have := (mem_ready.1 hr).1
      rcases Nat.lt_or_ge i listed.size with h' | h'
      · simpa [h'] using this
      · simp [Array.getElem?_eq_none h'] at this
    refine ⟨fun h => (by rw [h] at hr; cases hr), fun j hj => ?_⟩
    by_cases hji : j = i
    · subst hji; exact (hy b).op hi hbw ⟨b, fun _ => Ext.refl _, hbw, H⟩
    · have h1 := H.2 j (ready_mono hj hji)
      obtain ⟨hjun, oj, hoj, hall⟩ := mem_ready.1 hj
      have hnot : ∀ e ∈ oj.after, Region.binds md e = true → e.on ≠ i := fun e he hb heq => by
        have h1 := hall e he hb
        rw [heq, hil] at h1
        cases h1
      refine swap_blind hoj (hfree j oj hoj hji hjun hnot) (fun cs b => hsel i oi cs b hi) (fun cs b => hsel j oj cs b hoj) hQ hy ?_ h1
      rintro a' w' hy' ⟨b', hE, hbw', h3⟩
      refine ⟨b', hE, hbw', ih (listed.setIfInBounds j true) a' b' w' hbw' (ready_shut hshut hj) ?_ (ready_mono hr (Ne.symm hji)) hy' ?_⟩
      · intro k ok hk hki hun hno
        refine hfree k ok hk hki ?_ hno
        by_cases hjk : j = k
        · subst hjk; exact hjun
        · rw [getD_set_ne true hjk] at hun; exact hun
      · rw [Array.setIfInBounds_comm _ _ hji]
        exact h3

theorem blind_of_quiet {o : Oper} {a : Act} {K : Act → Prop} (ho : plainOp o.op = true)
    (h : if Region.wanted o (yielded ops a.tmps) then o.quiet P a (fun _ => True) K else K (a.put o.dst undef)) : ∃ v, (∀ w, Steady P ops w o v a) ∧ K (a.put o.dst v) := by
  by_cases hw : Region.wanted o (yielded ops a.tmps) = true
  · rw [if_pos hw] at h
    obtain ⟨v, h1, h2⟩ := h
    refine ⟨v, fun w => .inl ⟨hw, fun w' _ => ?_⟩, h2⟩
    have h3 := h1 w' trivial
    unfold Oper.quietAt at h3
    cases hr : (execOp a.eval o).run P w' with
    | halt e w2 => rw [hr] at h3; exact h3.elim
    | ok n w2 =>
      obtain ⟨u, rfl⟩ := plain_value ho hr
      rw [hr] at h3
      obtain ⟨rfl, rfl⟩ := h3
      rfl
  · rw [if_neg hw] at h
    exact ⟨undef, fun w => .inr ⟨by simpa using hw, rfl⟩, h⟩

def wpSegs2 (P : Program) (ops : Array Oper) (Q : Exit → Act → World → Prop) (fin : List Oper × List Oper × List Oper) : List (List Oper × List Oper × Oper) → Act → World → World → Prop
  | [], a, b, w => wpQuiet P ops (Ext b) (fun a1 => wpQuiet P ops (fun _ => True) (fun a2 => wpList P ops Q fin.2.2 a2 w) fin.2.1 a1) fin.1 a
  | (l, m, o) :: rest, a, b, w => wpQuiet P ops (Ext b) (fun a1 => wpQuiet P ops (fun _ => True) (fun a2 => liveAt P ops o (wpSegs2 P ops Q fin rest) a2 b w) m a1) l a

def pickS2 (l : List Oper) : List (List Nat × List Nat × Nat) → List (List Oper × List Oper × Oper)
  | [] => []
  | (q, m, j) :: r => (pickO l q, pickO l m, nthO l j) :: pickS2 l r

def blindB (md : Region.Mode) (ops : Array Oper) (i : Nat) (listed : Array Bool) : Bool :=
  (match ops[i]? with | some o => plainOp o.op | none => false) && Region.free md ops listed i && (Region.ready md ops listed).contains i

/-- The rest in the one order that there is. -/
def lastB (md : Region.Mode) (ops : Array Oper) : List Nat → Array Bool → Bool
  | [], listed => Region.ready md ops listed == []
  | j :: t, listed => (Region.ready md ops listed == [j]) && lastB md ops t (listed.setIfInBounds j true)
/-- The blind ones, then the rest. -/
def tailB (md : Region.Mode) (ops : Array Oper) (bl t : List Nat) (listed : Array Bool) : Bool := match bl with
  | [] => lastB md ops t listed
  | i :: l => blindB md ops i listed && tailB md ops l t (listed.setIfInBounds i true)

def segs2B (md : Region.Mode) (ops : Array Oper) (wild : List Nat) (bl t : List Nat) : Nat → List (List Nat × List Nat × Nat) → List Nat → Array Bool → Bool
  | _, [], [], listed => tailB md ops bl t listed
  | 0, _, _, _ => false
  | n + 1, [], i :: l, listed => takesB md ops wild i listed && segs2B md ops wild bl t n [] l (listed.setIfInBounds i true)
  | n + 1, ([], [], j) :: rest, l, listed => (Region.ready md ops listed == [j]) && !wild.contains j && segs2B md ops wild bl t n rest l (listed.setIfInBounds j true)
  | n + 1, ([], i :: m, j) :: rest, l, listed => blindB md ops i listed && segs2B md ops wild bl t n (([], m, j) :: rest) l (listed.setIfInBounds i true)
  | n + 1, (i :: q, m, j) :: rest, l, listed => takesB md ops wild i listed && segs2B md ops wild bl t n ((q, m, j) :: rest) l (listed.setIfInBounds i true)

theorem tail_any {L : List Oper} {Q : Exit → Act → World → Prop} {wild : Nat → Bool} (hs : Region.noSelect L.toArray = true) (hQ : ∀ c a d u w, Q (.panic c) (Act.put a d u) w → Q (.panic c) a w) :
    ∀ (n : Nat) (bl t : List Nat) (listed : Array Bool) (a : Act) (b w : World), Ext b w → bl.length + t.length = n → tailB md L.toArray bl t listed = true → Shut md L.toArray listed → (∀ j ∈ t, wild j = true) →
      wpQuiet P L.toArray (fun _ => True) (fun a2 => wpList P L.toArray Q (pickO L t) a2 w) (pickO L bl) a → wpAnyS P md L.toArray wild Q n listed a b w := by
  intro n
  induction n with
  | zero =>
    intro bl t listed a b w hbw hc hB hsh _ h
    have h1 : bl = [] := List.eq_nil_of_length_eq_zero (by omega)
    have h2 : t = [] := List.eq_nil_of_length_eq_zero (by omega)
    subst h1; subst h2
    rw [tailB, lastB] at hB
    exact ⟨by simpa using hB, h⟩
  | succ n ih =>
    intro bl t listed a b w hbw hc hB hsh ht h
    cases bl with
    | nil =>
      cases t with
      | nil => simp at hc
      | cons j t =>
        rw [tailB, lastB] at hB
        simp only [Bool.and_eq_true] at hB
        obtain ⟨h1, h2⟩ := hB
        have hr : Region.ready md L.toArray listed = [j] := by simpa using h1
        refine ⟨fun h0 => (by rw [h0] at hr; cases hr), fun i hi => ?_⟩
        rw [hr] at hi
        obtain rfl : i = j := by simpa using hi
        have hmem : i ∈ Region.ready md L.toArray listed := by rw [hr]; simp
        obtain ⟨_, o, ho, _⟩ := mem_ready.1 hmem
        have hn : nthO L i = o := nthO_eq L i o (by simpa using ho)
        simp only [pickO, wpQuiet, wpList, hn] at h
        unfold wpOp
        simp only [ho]
        have next : ∀ a' w', wpList P L.toArray Q (pickO L t) a' w' → ∃ b', (wild i = false → Ext b b') ∧ Ext b' w' ∧ wpAnyS P md L.toArray wild Q n (listed.setIfInBounds i true) a' b' w' := by
          intro a' w' hk
          refine ⟨w', fun hw => ?_, Ext.refl _, ih [] t _ a' w' w' (Ext.refl _) (by simp at hc ⊢; omega) h2 (ready_shut hsh hmem) (fun k hk => ht k (by simp [hk])) (by simpa only [pickO, wpQuiet] using hk)⟩
          rw [ht i (by simp)] at hw
          cases hw
        by_cases hw : Region.wanted o (yielded L.toArray a.tmps) = true
        · simp only [hw, if_true] at h ⊢
          exact h.imp (Oper.wp_mono next) id
        · simp only [hw] at h ⊢
          exact next _ _ h
    | cons i l =>
      rw [tailB] at hB
      simp only [Bool.and_eq_true, blindB] at hB
      obtain ⟨⟨⟨h1, h2⟩, h3⟩, h4⟩ := hB
      simp only [pickO, wpQuiet] at h
      cases ho : L.toArray[i]? with
      | none => rw [ho] at h1; simp at h1
      | some o =>
        rw [ho] at h1
        have hn : nthO L i = o := nthO_eq L i o (by simpa using ho)
        rw [hn] at h
        obtain ⟨v, hy, hk⟩ := blind_of_quiet h1 h
        exact wpAnyS_first_blind ho (Region.noSelect_spec hs) hQ n listed a b w hbw hsh (Region.free_spec ho h2) (by simpa using h3) hy
          (ih l t _ _ b w hbw (by simp at hc ⊢; omega) h4 (ready_shut hsh (by simpa using h3)) ht hk)

def cntS2 (p : List (List Nat × List Nat × Nat)) (q bl t : List Nat) : Nat := (p.map (fun x => x.1.length + x.2.1.length + 1)).sum + q.length + (bl.length + t.length)

theorem segs2_any {L : List Oper} {Q : Exit → Act → World → Prop} {wild bl t : List Nat} (hs : Region.noSelect L.toArray = true)
    (hQ : ∀ c a d u w, Q (.panic c) (Act.put a d u) w → Q (.panic c) a w) (ht : ∀ j ∈ t, wild.contains j = true) :
    ∀ (n f : Nat) (p : List (List Nat × List Nat × Nat)) (q : List Nat) (listed : Array Bool) (a : Act) (b w : World), Ext b w → cntS2 p q bl t = n → segs2B md L.toArray wild bl t f p q listed = true →
      Shut md L.toArray listed → wpSegs2 P L.toArray Q (pickO L q, pickO L bl, pickO L t) (pickS2 L p) a b w →
      wpAnyS P md L.toArray (fun j => wild.contains j) Q n listed a b w := by
  have take : ∀ (n i : Nat) (listed : Array Bool) (a : Act) (b w : World) (K : Act → Prop), Ext b w → takesB md L.toArray wild i listed = true → Shut md L.toArray listed →
      (if Region.wanted (nthO L i) (yielded L.toArray a.tmps) then (nthO L i).quiet P a (Ext b) K else K (a.put (nthO L i).dst undef)) →
      (∀ a', K a' → wpAnyS P md L.toArray (fun j => wild.contains j) Q n (listed.setIfInBounds i true) a' b w) →
      wpAnyS P md L.toArray (fun j => wild.contains j) Q (n + 1) listed a b w := by
    intro n i listed a b w K hbw hB hsh h hnext
    simp only [takesB, Bool.and_eq_true] at hB
    obtain ⟨⟨⟨h1, h2⟩, h3⟩, h4⟩ := hB
    cases ho : L.toArray[i]? with
    | none => rw [ho] at h1; simp at h1
    | some o =>
      rw [ho] at h1
      have hn : nthO L i = o := nthO_eq L i o (by simpa using ho)
      rw [hn] at h
      obtain ⟨v, hy, hk⟩ := steady_of_quiet h1 h
      refine wpAnyS_first ho (Region.noSelect_spec hs) hQ L.toArray.size n listed a b w hbw hsh (Region.free_spec ho h2) ?_ (by simpa using h3) hy (hnext _ hk)
      intro j hj hw hun
      have h5 := List.all_eq_true.1 h4 j (by simpa using hw)
      simpa [hun] using h5
  have takeBlind : ∀ (n i : Nat) (listed : Array Bool) (a : Act) (b w : World) (K : Act → Prop), Ext b w → blindB md L.toArray i listed = true → Shut md L.toArray listed →
      (if Region.wanted (nthO L i) (yielded L.toArray a.tmps) then (nthO L i).quiet P a (fun _ => True) K else K (a.put (nthO L i).dst undef)) →
      (∀ a', K a' → wpAnyS P md L.toArray (fun j => wild.contains j) Q n (listed.setIfInBounds i true) a' b w) →
      wpAnyS P md L.toArray (fun j => wild.contains j) Q (n + 1) listed a b w := by
    intro n i listed a b w K hbw hB hsh h hnext
    simp only [blindB, Bool.and_eq_true] at hB
    obtain ⟨⟨h1, h2⟩, h3⟩ := hB
    cases ho : L.toArray[i]? with
    | none => rw [ho] at h1; simp at h1
    | some o =>
      rw [ho] at h1
      have hn : nthO L i = o := nthO_eq L i o (by simpa using ho)
      rw [hn] at h
      obtain ⟨v, hy, hk⟩ := blind_of_quiet h1 h
      exact wpAnyS_first_blind ho (Region.noSelect_spec hs) hQ n listed a b w hbw hsh (Region.free_spec ho h2) (by simpa using h3) hy (hnext _ hk)
  intro n
  induction n with
  | zero =>
    intro f p q listed a b w hbw hc hB hsh h
    have hp : p = [] := by cases p with | nil => rfl | cons x r => simp [cntS2] at hc
    have hq : q = [] := by cases q with | nil => rfl | cons x r => simp [cntS2] at hc
    subst hp; subst hq
    rw [segs2B] at hB
    simp only [wpSegs2, pickS2, pickO, wpQuiet] at h
    exact tail_any hs hQ 0 bl t listed a b w hbw (by simpa [cntS2] using hc) hB hsh ht h
  | succ n ih =>
    intro f p q listed a b w hbw hc hB hsh h
    cases p with
    | nil =>
      cases q with
      | nil =>
        rw [segs2B] at hB
        simp only [wpSegs2, pickS2, pickO, wpQuiet] at h
        exact tail_any hs hQ (n + 1) bl t listed a b w hbw (by simpa [cntS2] using hc) hB hsh ht h
      | cons i q =>
        cases f with
        | zero => simp [segs2B] at hB
        | succ f =>
        rw [segs2B] at hB
        simp only [Bool.and_eq_true] at hB
        simp only [wpSegs2, pickS2, pickO, wpQuiet] at h
        refine take n i listed a b w _ hbw hB.1 hsh h fun a' hk => ih f [] q _ a' b w hbw (by simp [cntS2] at hc ⊢; omega) hB.2 (ready_shut hsh ?_) (by simpa only [wpSegs2, pickS2] using hk)
        have := hB.1
        simp only [takesB, Bool.and_eq_true] at this
        simpa using this.1.2
    | cons s p =>
      obtain ⟨l, m, j⟩ := s
      cases f with
      | zero => simp [segs2B] at hB
      | succ f =>
      cases l with
      | nil =>
        cases m with
        | nil =>
          rw [segs2B] at hB
          simp only [Bool.and_eq_true, Bool.not_eq_true'] at hB
          obtain ⟨⟨h1, h3⟩, h2⟩ := hB
          have hr : Region.ready md L.toArray listed = [j] := by simpa using h1
          refine ⟨fun h0 => (by rw [h0] at hr; cases hr), fun i hi => ?_⟩
          rw [hr] at hi
          obtain rfl : i = j := by simpa using hi
          have hmem : i ∈ Region.ready md L.toArray listed := by rw [hr]; simp
          obtain ⟨_, o, ho, _⟩ := mem_ready.1 hmem
          have hn : nthO L i = o := nthO_eq L i o (by simpa using ho)
          simp only [wpSegs2, pickS2, pickO, wpQuiet, liveAt, hn] at h
          unfold wpOp
          simp only [ho]
          have next : ∀ a' b' w', Ext b' w' → wpSegs2 P L.toArray Q (pickO L q, pickO L bl, pickO L t) (pickS2 L p) a' b' w' → wpAnyS P md L.toArray (fun j => wild.contains j) Q n (listed.setIfInBounds i true) a' b' w' := by
            intro a' b' w' hb' hk
            exact ih f p q _ a' b' w' hb' (by simp [cntS2] at hc ⊢; omega) h2 (ready_shut hsh hmem) hk
          by_cases hw : Region.wanted o (yielded L.toArray a.tmps) = true
          · simp only [hw, if_true] at h ⊢
            exact .inl (Oper.wp_mono (fun a' w' ⟨b', h1, h2, h3⟩ => ⟨b', fun _ => h1, h2, next a' b' w' h2 h3⟩) (Oper.wp_of_noExit h))
          · simp only [hw] at h ⊢
            exact ⟨b, fun _ => Ext.refl _, hbw, next _ _ _ hbw h⟩
        | cons i m =>
          rw [segs2B] at hB
          simp only [Bool.and_eq_true] at hB
          simp only [wpSegs2, pickS2, pickO, wpQuiet] at h
          refine takeBlind n i listed a b w _ hbw hB.1 hsh h fun a' hk => ih f (([], m, j) :: p) q _ a' b w hbw (by simp [cntS2] at hc ⊢; omega) hB.2 (ready_shut hsh ?_) (by simpa only [wpSegs2, pickS2, pickO, wpQuiet] using hk)
          have := hB.1
          simp only [blindB, Bool.and_eq_true] at this
          simpa using this.2
      | cons i l =>
        rw [segs2B] at hB
        simp only [Bool.and_eq_true] at hB
        simp only [wpSegs2, pickS2, pickO, wpQuiet] at h
        refine take n i listed a b w _ hbw hB.1 hsh h fun a' hk => ih f ((l, m, j) :: p) q _ a' b w hbw (by simp [cntS2] at hc ⊢; omega) hB.2 (ready_shut hsh ?_) (by simpa only [wpSegs2, pickS2] using hk)
        have := hB.1
        simp only [takesB, Bool.and_eq_true] at this
        simpa using this.1.2

/-- A region that draws its order, walked in pieces in one order; among them those that read nothing. -/
theorem wp_region_segs2 {id : Nat} {L : List Oper} {Q : Exit → Act → World → Prop} {a : Act} {w : World} (hm : P.follows .mixedOrders = true)
    (p : List (List Nat × List Nat × Nat)) (q bl t : List Nat) (hB : (cntS2 p q bl t == L.length && Region.noSelect L.toArray && segs2B .any L.toArray t bl t L.length p q (Array.replicate L.toArray.size false)) = true)
    (hQ : ∀ c a d u w, Q (.panic c) (Act.put a d u) w → Q (.panic c) a w)
    (h : wpSegs2 P L.toArray Q (pickO L q, pickO L bl, pickO L t) (pickS2 L p) a w.drew w.drew) : (Code.region id L.toArray true).wp P Q a w := by
  simp only [Bool.and_eq_true, beq_iff_eq] at hB
  obtain ⟨⟨h1, h2⟩, h3⟩ := hB
  refine wp_region_any hm (wpAny_of_S (wild := fun j => t.contains j) _ _ _ w.drew _ ?_)
  have hsh : Shut .any L.toArray (Array.replicate L.toArray.size false) := by
    intro i o hi hl
    have : i < L.toArray.size := (Array.getElem?_eq_some_iff.1 hi).1
    simp at this
    simp [this] at hl
  have := segs2_any (P := P) (md := .any) (bl := bl) h2 hQ (fun j hj => by simpa using hj) L.length L.length p q _ a w.drew w.drew (Ext.refl _) h1 h3 hsh h
  simpa using this
end
end Go.Proofs.Ytiofkiaibcmdhaa
