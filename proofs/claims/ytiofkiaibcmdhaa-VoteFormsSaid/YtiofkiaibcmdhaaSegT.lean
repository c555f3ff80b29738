import Derived.Test.YtiofkiaibcmdhaaSegG
namespace Go.Proofs.Ytiofkiaibcmdhaa
open Go Go.RowKit

/-- How a region that draws its order is walked: quiet operations, then a live one; or two live ones, of which either may come first. -/
inductive Tr where
  | fin (q t : List Nat)
  | one (q : List Nat) (j : Nat) (r : Tr)
  | two (q : List Nat) (j : Nat) (r : Tr) (k : Nat) (s : Tr)

section
variable {P : Program} {md : Region.Mode}

def takesL (md : Region.Mode) (ops : Array Oper) (wild : List Nat) : List Nat → Array Bool → Bool
  | [], _ => true
  | i :: q, l => takesB md ops wild i l && takesL md ops wild q (l.setIfInBounds i true)
def afterL : List Nat → Array Bool → Array Bool
  | [], l => l
  | i :: q, l => afterL q (l.setIfInBounds i true)
def treeB (md : Region.Mode) (ops : Array Oper) (wild : List Nat) : Tr → Array Bool → Bool
  | .fin q t, l => segsB md ops wild [] q t l && t.all wild.contains
  | .one q j r, l => takesL md ops wild q l && (Region.ready md ops (afterL q l) == [j]) && !wild.contains j && treeB md ops wild r ((afterL q l).setIfInBounds j true)
  | .two q j r k s, l => takesL md ops wild q l && (Region.ready md ops (afterL q l) == [j, k]) && !wild.contains j && !wild.contains k && treeB md ops wild r ((afterL q l).setIfInBounds j true) && treeB md ops wild s ((afterL q l).setIfInBounds k true)
def cntT : Tr → Nat → Bool
  | .fin q t, n => cntS [] q t == n
  | .one q _ r, n => decide (q.length + 1 ≤ n) && cntT r (n - (q.length + 1))
  | .two q _ r _ s, n => decide (q.length + 1 ≤ n) && cntT r (n - (q.length + 1)) && cntT s (n - (q.length + 1))

def wpTree (P : Program) (L : List Oper) (ops : Array Oper) (Q : Exit → Act → World → Prop) : Tr → Act → World → World → Prop
  | .fin q t, a, b, w => wpQuiet P ops (Ext b) (fun a1 => wpList P ops Q (pickO L t) a1 w) (pickO L q) a
  | .one q j r, a, b, w => wpQuiet P ops (Ext b) (fun a1 => liveAt P ops (nthO L j) (wpTree P L ops Q r) a1 b w) (pickO L q) a
  | .two q j r k s, a, b, w => wpQuiet P ops (Ext b) (fun a1 => liveAt P ops (nthO L j) (wpTree P L ops Q r) a1 b w ∧ liveAt P ops (nthO L k) (wpTree P L ops Q s) a1 b w) (pickO L q) a

theorem tree_quiets {L : List Oper} {Q : Exit → Act → World → Prop} {wild : List Nat} (hs : Region.noSelect L.toArray = true)
    (hQ : ∀ c a d u w, Q (.panic c) (Act.put a d u) w → Q (.panic c) a w) (n : Nat) (K : Act → Prop) : ∀ (q : List Nat) (listed : Array Bool) (a : Act) (b w : World), Ext b w → takesL md L.toArray wild q listed = true → Shut md L.toArray listed →
      wpQuiet P L.toArray (Ext b) K (pickO L q) a →
      (∀ a', K a' → Shut md L.toArray (afterL q listed) → wpAnyS P md L.toArray (fun j => wild.contains j) Q n (afterL q listed) a' b w) →
      wpAnyS P md L.toArray (fun j => wild.contains j) Q (q.length + n) listed a b w := by
  intro q
  induction q with
  | nil =>
    intro listed a b w hbw _ hsh h hn
    simp only [List.length_nil, Nat.zero_add]
    simp only [pickO, wpQuiet] at h
    exact hn a h hsh
  | cons i q ih =>
    intro listed a b w hbw hB hsh h hn
    simp only [takesL, Bool.and_eq_true] at hB
    obtain ⟨hB1, hB2⟩ := hB
    have hB1' := hB1
    simp only [takesB, Bool.and_eq_true] at hB1'
    obtain ⟨⟨⟨h1, h2⟩, h3⟩, h4⟩ := hB1'
    have hmem : i ∈ Region.ready md L.toArray listed := by simpa using h3
    simp only [pickO, wpQuiet] at h
    cases ho : L.toArray[i]? with
    | none => rw [ho] at h1; simp at h1
    | some o =>
      rw [ho] at h1
      have hnn : nthO L i = o := nthO_eq L i o (by simpa using ho)
      rw [hnn] at h
      obtain ⟨v, hy, hk⟩ := steady_of_quiet h1 h
      rw [List.length_cons, show q.length + 1 + n = q.length + n + 1 by omega]
      refine wpAnyS_first ho (Region.noSelect_spec hs) hQ L.toArray.size (q.length + n) listed a b w hbw hsh (Region.free_spec ho h2) ?_ hmem hy ?_
      · intro j hj hw hun
        have h5 := List.all_eq_true.1 h4 j (by simpa using hw)
        simpa [hun] using h5
      · exact ih _ _ b w hbw hB2 (ready_shut hsh hmem) hk hn

theorem tree_any {L : List Oper} {Q : Exit → Act → World → Prop} {wild : List Nat} (hs : Region.noSelect L.toArray = true)
    (hQ : ∀ c a d u w, Q (.panic c) (Act.put a d u) w → Q (.panic c) a w) :
    ∀ (T : Tr) (n : Nat) (listed : Array Bool) (a : Act) (b w : World), Ext b w → cntT T n = true → treeB md L.toArray wild T listed = true →
      Shut md L.toArray listed → wpTree P L L.toArray Q T a b w →
      wpAnyS P md L.toArray (fun j => wild.contains j) Q n listed a b w := by
  have liveOp : ∀ (j : Nat) (listed : Array Bool) (n : Nat) (next : Act → World → World → Prop) (a : Act) (b w : World), Ext b w → j ∈ Region.ready md L.toArray listed → wild.contains j = false →
      (∀ a' b' w', Ext b' w' → next a' b' w' → wpAnyS P md L.toArray (fun j => wild.contains j) Q n (listed.setIfInBounds j true) a' b' w') →
      liveAt P L.toArray (nthO L j) next a b w →
      wpOp P L.toArray Q j (fun a' w' => ∃ b', ((fun j => wild.contains j) j = false → Ext b b') ∧ Ext b' w' ∧ wpAnyS P md L.toArray (fun j => wild.contains j) Q n (listed.setIfInBounds j true) a' b' w') a w := by
    intro j listed n next a b w hbw hmem hw hnext h
    obtain ⟨_, o, ho, _⟩ := mem_ready.1 hmem
    have hn : nthO L j = o := nthO_eq L j o (by simpa using ho)
    unfold liveAt at h
    rw [hn] at h
    unfold wpOp
    simp only [ho]
    by_cases hwt : Region.wanted o (yielded L.toArray a.tmps) = true
    · simp only [hwt, if_true] at h ⊢
      exact .inl (Oper.wp_mono (fun a' w' ⟨b', h1, h2, h3⟩ => ⟨b', fun _ => h1, h2, hnext a' b' w' h2 h3⟩) (Oper.wp_of_noExit h))
    · simp only [hwt] at h ⊢
      exact ⟨b, fun _ => Ext.refl _, hbw, hnext _ _ _ hbw h⟩
  intro T
  induction T with
  | fin q t =>
    intro n listed a b w hbw hc hB hsh h
    simp only [treeB, Bool.and_eq_true] at hB
    have hc' : cntS [] q t = n := by simpa [cntT] using hc
    refine segs_any hs hQ n [] q t listed a b w hbw hc' hB.1 hsh (fun j hj => List.all_eq_true.1 hB.2 j hj) ?_
    simpa only [wpSegs, pickS, wpTree] using h
  | one q j r ih =>
    intro n listed a b w hbw hc hB hsh h
    simp only [treeB, Bool.and_eq_true, Bool.not_eq_true'] at hB
    obtain ⟨⟨⟨h1, h2⟩, h3⟩, h4⟩ := hB
    simp only [cntT, Bool.and_eq_true, decide_eq_true_eq] at hc
    obtain ⟨m, rfl⟩ : ∃ m, n = q.length + (m + 1) := ⟨n - (q.length + 1), by omega⟩
    have hr : Region.ready md L.toArray (afterL q listed) = [j] := by simpa using h2
    simp only [wpTree] at h
    refine tree_quiets hs hQ (m + 1) _ q listed a b w hbw h1 hsh h fun a' hk hsh' => ?_
    have hmem : j ∈ Region.ready md L.toArray (afterL q listed) := by rw [hr]; simp
    refine ⟨fun h0 => (by rw [h0] at hr; cases hr), fun i hi => ?_⟩
    rw [hr] at hi
    obtain rfl : i = j := by simpa using hi
    exact liveOp i _ m _ a' b w hbw hmem h3 (fun a2 b2 w2 he hx => ih m _ a2 b2 w2 he (by have := hc.2; rwa [show q.length + (m + 1) - (q.length + 1) = m by omega] at this) h4 (ready_shut hsh' hmem) hx) hk
  | two q j r k s ih1 ih2 =>
    intro n listed a b w hbw hc hB hsh h
    simp only [treeB, Bool.and_eq_true, Bool.not_eq_true'] at hB
    obtain ⟨⟨⟨⟨⟨h1, h2⟩, h3⟩, h3'⟩, h4⟩, h5⟩ := hB
    simp only [cntT, Bool.and_eq_true, decide_eq_true_eq] at hc
    obtain ⟨m, rfl⟩ : ∃ m, n = q.length + (m + 1) := ⟨n - (q.length + 1), by omega⟩
    rw [show q.length + (m + 1) - (q.length + 1) = m by omega] at hc
    have hr : Region.ready md L.toArray (afterL q listed) = [j, k] := by simpa using h2
    simp only [wpTree] at h
    refine tree_quiets hs hQ (m + 1) _ q listed a b w hbw h1 hsh h fun a' hk hsh' => ?_
    refine ⟨fun h0 => (by rw [h0] at hr; cases hr), fun i hi => ?_⟩
    have hmem := hi
    rw [hr] at hi
    simp only [List.mem_cons, List.not_mem_nil, or_false] at hi
    rcases hi with rfl | rfl
    · exact liveOp i _ m _ a' b w hbw hmem h3 (fun a2 b2 w2 he hx => ih1 m _ a2 b2 w2 he hc.1.2 h4 (ready_shut hsh' hmem) hx) hk.1
    · exact liveOp i _ m _ a' b w hbw hmem h3' (fun a2 b2 w2 he hx => ih2 m _ a2 b2 w2 he hc.2 h5 (ready_shut hsh' hmem) hx) hk.2

/-- **A region that draws its order, walked by a tree.** -/
theorem wp_region_tree {id : Nat} {L : List Oper} {Q : Exit → Act → World → Prop} {a : Act} {w : World} (hm : P.follows .mixedOrders = true)
    (T : Tr) (wild : List Nat) (hB : (cntT T L.length && Region.noSelect L.toArray && treeB .any L.toArray wild T (Array.replicate L.toArray.size false)) = true)
    (hQ : ∀ c a d u w, Q (.panic c) (Act.put a d u) w → Q (.panic c) a w)
    (h : wpTree P L L.toArray Q T a w.drew w.drew) : (Code.region id L.toArray true).wp P Q a w := by
  simp only [Bool.and_eq_true] at hB
  obtain ⟨⟨h1, h2⟩, h3⟩ := hB
  refine wp_region_any hm (wpAny_of_S (wild := fun j => wild.contains j) _ _ _ w.drew _ ?_)
  have hsh : Shut .any L.toArray (Array.replicate L.toArray.size false) := by
    intro i o hi hl
    have : i < L.toArray.size := (Array.getElem?_eq_some_iff.1 hi).1
    simp at this
    simp [this] at hl
  have := tree_any (P := P) (md := .any) h2 hQ T L.length _ a w.drew w.drew (Ext.refl _) h1 h3 hsh h
  simpa using this
end
end Go.Proofs.Ytiofkiaibcmdhaa
