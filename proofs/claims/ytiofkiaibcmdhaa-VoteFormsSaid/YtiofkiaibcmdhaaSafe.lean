import Derived.Test.YtiofkiaibcmdhaaPure
/-
  Among peers of whom at most f are wrong no two right ones decide unlike values. No program in sight.
-/
namespace Go.Proofs.Ytiofkiaibcmdhaa

/-- What the right ones have told: P prepares, C commits (by peer, view), D what they have decided. -/
structure Env where
  n : Int
  right : Int → Prop
  P : Int → Int → Bytes → Prop
  C : Int → Int → Bytes → Prop
  D : Int → Bytes → Prop

/-- So many peers, of whom the right ones are in A. -/
def Env.many (E : Env) (A : Int → Prop) (m : Int) : Prop := ∃ S : List Int, S.Nodup ∧ (∀ k ∈ S, 1 ≤ k ∧ k ≤ E.n ∧ (E.right k → A k)) ∧ m ≤ S.length
def Env.QP (E : Env) (v : Int) (x : Bytes) : Prop := E.many (fun k => E.P k v x) (quorum E.n)
def Env.QC (E : Env) (v : Int) (x : Bytes) : Prop := E.many (fun k => E.C k v x) (quorum E.n)
/-- A prepare that no elder commit of the same peer forbids. -/
def Env.J (E : Env) (k v : Int) (x : Bytes) : Prop := ∀ u y, E.C k u y → u < v → x = y ∨ ∃ w, u ≤ w ∧ w < v ∧ E.QP w x
def Env.JQ (E : Env) (v : Int) (x : Bytes) : Prop := E.many (fun k => E.P k v x ∧ E.J k v x) (quorum E.n)

structure Env.Le (E F : Env) : Prop where
  n : F.n = E.n
  right : F.right = E.right
  P : ∀ k v x, E.P k v x → F.P k v x
  C : ∀ k v x, E.C k v x → F.C k v x
  D : ∀ k x, E.D k x → F.D k x
  fresh : ∀ k u y, F.C k u y → E.C k u y ∨ ∀ v x, E.P k v x → v ≤ u

theorem Env.many.mono {E F : Env} {A B : Int → Prop} {m : Int} (h : E.many A m) (hn : F.n = E.n) (hr : F.right = E.right) (hab : ∀ k, A k → B k) : F.many B m := by
  obtain ⟨S, h1, h2, h3⟩ := h
  exact ⟨S, h1, fun k hk => by rw [hn, hr]; exact ⟨(h2 k hk).1, (h2 k hk).2.1, fun hx => hab k ((h2 k hk).2.2 hx)⟩, h3⟩
theorem Env.QP.mono {E F : Env} (h : E.Le F) {v : Int} {x : Bytes} (hq : E.QP v x) : F.QP v x := by
  unfold Env.QP; rw [h.n]; exact Env.many.mono hq h.n h.right fun k hk => h.P k v x hk
theorem Env.QC.mono {E F : Env} (h : E.Le F) {v : Int} {x : Bytes} (hq : E.QC v x) : F.QC v x := by
  unfold Env.QC; rw [h.n]; exact Env.many.mono hq h.n h.right fun k hk => h.C k v x hk
theorem Env.J.mono {E F : Env} (h : E.Le F) {k v : Int} {x : Bytes} (hp : E.P k v x) (hj : E.J k v x) : F.J k v x := by
  intro u y hc hlt
  rcases h.fresh k u y hc with h1 | h1
  · rcases hj u y h1 hlt with h2 | ⟨w, h2, h3, h4⟩
    · exact .inl h2
    · exact .inr ⟨w, h2, h3, h4.mono h⟩
  · have := h1 v x hp
    omega
theorem Env.JQ.mono {E F : Env} (h : E.Le F) {v : Int} {x : Bytes} (hq : E.JQ v x) : F.JQ v x := by
  unfold Env.JQ; rw [h.n]; exact Env.many.mono hq h.n h.right fun k hk => ⟨h.P k v x hk.1, hk.2.mono h hk.1⟩

theorem nodup_le {S : List Int} {n : Int} (hs : S.Nodup) (h0 : 0 ≤ n) (h : ∀ k ∈ S, 1 ≤ k ∧ k ≤ n) : (S.length : Int) ≤ n := by
  have hz : (0 :: S).Nodup := List.nodup_cons.2 ⟨fun h2 => by have := h 0 h2; omega, hs⟩
  have := nodup_bound hz (n.toNat + 1) fun k hk => by
    rcases List.mem_cons.1 hk with rfl | hk
    · omega
    · have := h k hk; omega
  simp only [List.length_cons] at this
  omega

theorem filter_split (S : List Int) (p : Int → Bool) : (S.filter p).length + (S.filter fun k => !p k).length = S.length := by
  induction S with
  | nil => rfl
  | cons x S ih =>
    simp only [List.filter_cons]
    cases p x <;> simp <;> omega

/-- Two quorums have a right peer in common. -/
theorem Env.meet {E : Env} {A B : Int → Prop} (hn : 4 ≤ E.n) (W : List Int) (hW : W.length ≤ few E.n) (hw : ∀ k, 1 ≤ k → k ≤ E.n → ¬ E.right k → k ∈ W)
    (ha : E.many A (quorum E.n)) (hb : E.many B (quorum E.n)) : ∃ k, E.right k ∧ A k ∧ B k := by
  obtain ⟨S, s1, s2, s3⟩ := ha
  obtain ⟨T, t1, t2, t3⟩ := hb
  apply Classical.byContradiction
  intro hno
  have hsub : ∀ k ∈ S.filter (fun k => decide (k ∈ T)), k ∈ W := by
    intro k hk
    obtain ⟨h1, h2⟩ := List.mem_filter.1 hk
    have h2 : k ∈ T := by simpa using h2
    refine hw k (s2 k h1).1 (s2 k h1).2.1 fun hr => hno ⟨k, hr, (s2 k h1).2.2 hr, (t2 k h2).2.2 hr⟩
  have l1 := (List.Nodup.sublist (List.filter_sublist (p := fun k => decide (k ∈ T))) s1).length_le_of_subset hsub
  have hnd : (T ++ S.filter (fun k => !decide (k ∈ T))).Nodup := by
    rw [List.nodup_append]
    refine ⟨t1, List.Nodup.sublist List.filter_sublist s1, fun a ha b hb e => ?_⟩
    subst e
    have := (List.mem_filter.1 hb).2
    simp [ha] at this
  have l2 := nodup_le hnd (n := E.n) (by omega) fun k hk => by
    rcases List.mem_append.1 hk with hk | hk
    · exact ⟨(t2 k hk).1, (t2 k hk).2.1⟩
    · have := (List.mem_filter.1 hk).1; exact ⟨(s2 k this).1, (s2 k this).2.1⟩
  have l3 := filter_split S (fun k => decide (k ∈ T))
  rw [List.length_append] at l2
  unfold quorum at s3 t3
  unfold few at hW
  omega

/-- More than f peers have a right one among them. -/
theorem Env.some_right {E : Env} {A : Int → Prop} (W : List Int) (hW : W.length ≤ few E.n) (hw : ∀ k, 1 ≤ k → k ≤ E.n → ¬ E.right k → k ∈ W)
    (ha : E.many A (few E.n + 1)) : ∃ k, E.right k ∧ A k := by
  obtain ⟨S, s1, s2, s3⟩ := ha
  apply Classical.byContradiction
  intro hno
  have l1 := s1.length_le_of_subset (l₂ := W) fun k hk => hw k (s2 k hk).1 (s2 k hk).2.1 fun hr => hno ⟨k, hr, (s2 k hk).2.2 hr⟩
  omega

theorem maj_many {t : Told} {m : Int} {x : Bytes} (hn : (t.map (·.1)).Nodup) (h : maj t m = some x) : ∃ S : List Int, S.Nodup ∧ (∀ k ∈ S, getV t k = some x) ∧ m ≤ S.length := by
  unfold maj at h
  obtain ⟨k, _, hk⟩ := List.exists_of_findSome?_eq_some h
  split at hk
  · rename_i v _
    split at hk
    · rename_i hle
      cases hk
      refine ⟨(t.filter fun p => decide (p.2 = x)).map (·.1), List.Nodup.sublist ((List.filter_sublist (l := t)).map _) hn, fun k hk => ?_, by simpa [occ] using hle⟩
      obtain ⟨⟨j, y⟩, hm, rfl⟩ := List.mem_map.1 hk
      obtain ⟨h1, h2⟩ := List.mem_filter.1 hm
      have h2 : y = x := by simpa using h2
      subst h2
      exact getV_of_mem hn h1
    · cases hk
  · cases hk

/-- What a right core holds, beside the others. -/
structure Loc (okf : Bytes → Bool) (E : Env) (s : St) : Prop where
  n : s.n = E.n
  ok : s.Ok
  own : Own s
  tabP : ∀ j v x, j ≠ s.me → E.right j → at2 s.prepares v j = some x → E.P j v x
  tabC : ∀ j v x, j ≠ s.me → E.right j → at2 s.commits v j = some x → E.C j v x
  tabD : ∀ j x, E.right j → getV s.deciders j = some x → E.D j x
  selfP : ∀ v x, at2 s.prepares v s.me = some x → E.P s.me v x
  selfC : ∀ v x, at2 s.commits v s.me = some x → E.C s.me v x
  oneC : ∀ v x, E.C s.me v x → at2 s.commits v s.me = some x
  selfD : s.decided = true → E.D s.me s.value
  c2p : ∀ v x, at2 s.commits v s.me = some x → E.QP v x
  acc : ∀ v x, at2 s.prepares v s.me = some x → okf x = true
  lockN : s.lock < 0 → ∀ v, at2 s.commits v s.me = none
  lockC : 0 ≤ s.lock → at2 s.commits s.lock s.me = some s.locked
  lockM : ∀ v x, at2 s.commits v s.me = some x → v ≤ s.lock
  just : ∀ v x, at2 s.prepares v s.me = some x → E.J s.me v x ∨ E.JQ v x
  dec : s.decided = true → ∃ u, E.QC u s.value

/-- What is known of t's own votes. -/
structure Cov (F : Env) (t : St) : Prop where
  P : ∀ v x, at2 t.prepares v t.me = some x → F.P t.me v x
  C : ∀ v x, at2 t.commits v t.me = some x → F.C t.me v x
  oneC : ∀ v x, F.C t.me v x → at2 t.commits v t.me = some x
  D : t.decided = true → F.D t.me t.value

/-- What is true of all that is told. -/
structure Sound (E : Env) : Prop where
  n : 4 ≤ E.n
  W : ∃ W : List Int, W.length ≤ few E.n ∧ ∀ k, 1 ≤ k → k ≤ E.n → ¬ E.right k → k ∈ W
  just : ∀ v x, E.QP v x → E.JQ v x
  dec : ∀ j x, E.right j → E.D j x → ∃ u, E.QC u x

section
variable {okf : Bytes → Bool} {E F : Env} {s t : St}

theorem told_many {tb : Told} (hto : ToldOk s.n tb) (hn : s.n = E.n) {A : Int → Prop} {m : Int} {x : Bytes} (hA : ∀ k, E.right k → getV tb k = some x → A k) (h : maj tb m = some x) : E.many A m := by
  obtain ⟨S, h1, h2, h3⟩ := maj_many hto.1 h
  refine ⟨S, h1, fun k hk => ?_, h3⟩
  have hb := hto.2 k x (getV_mem (h2 k hk))
  exact ⟨hb.1, by rw [← hn]; exact hb.2.1, fun hr => hA k hr (h2 k hk)⟩

theorem Loc.prepared (h : Loc okf E s) {v : Int} {x : Bytes} (hp : s.prepared v = some x) : E.QP v x := by
  unfold St.prepared at hp
  unfold Env.QP
  rw [← h.n]
  refine told_many (h.ok.preps.get v) h.n (fun k hr hk => ?_) hp
  by_cases hme : k = s.me
  · subst hme; exact h.selfP v x hk
  · exact h.tabP k v x hme hr hk

theorem Loc.chosen (h : Loc okf E s) {x : Bytes} (hp : s.chosen = some x) : ∃ v, E.QC v x := by
  unfold St.chosen at hp
  obtain ⟨v, _, hv⟩ := List.exists_of_findSome?_eq_some hp
  refine ⟨v, ?_⟩
  unfold Env.QC
  rw [← h.n]
  refine told_many (h.ok.comms.get v) h.n (fun k hr hk => ?_) hv
  by_cases hme : k = s.me
  · subst hme; exact h.selfC v x hk
  · exact h.tabC k v x hme hr hk

/-- It holds beside others who have gone on, where it itself has turned in nothing of its own. -/
theorem Loc.up (h : Loc okf E s) (hE : E.Le F) (hc : Cov F s) : Loc okf F s where
  n := h.n.trans hE.n.symm
  ok := h.ok
  own := h.own
  tabP := fun j v x hj hr hx => hE.P j v x (h.tabP j v x hj (by rw [← hE.right]; exact hr) hx)
  tabC := fun j v x hj hr hx => hE.C j v x (h.tabC j v x hj (by rw [← hE.right]; exact hr) hx)
  tabD := fun j x hr hx => hE.D j x (h.tabD j x (by rw [← hE.right]; exact hr) hx)
  selfP := hc.P
  selfC := hc.C
  oneC := hc.oneC
  selfD := hc.D
  c2p := fun v x hx => (h.c2p v x hx).mono hE
  acc := h.acc
  lockN := h.lockN
  lockC := h.lockC
  lockM := h.lockM
  just := fun v x hx => (h.just v x hx).elim (fun hj => .inl (hj.mono hE (h.selfP v x hx))) (fun hj => .inr (hj.mono hE))
  dec := fun hd => let ⟨u, hu⟩ := h.dec hd; ⟨u, hu.mono hE⟩

/-- A prepare that fits. -/
theorem Loc.fits (h : Loc okf E s) (hS : Sound E) {p : Bytes × Int} (hf : s.fit okf p = true) : E.J s.me s.view p.1 ∨ E.JQ s.view p.1 := by
  unfold St.fit at hf
  simp only [Bool.and_eq_true, Bool.or_eq_true, decide_eq_true_eq, beq_iff_eq] at hf
  obtain ⟨_, hf⟩ := hf
  rcases hf with (hf | hf) | ⟨⟨h1, h2⟩, h3⟩
  · refine .inl fun u y hc _ => ?_
    have := h.oneC u y hc
    rw [h.lockN hf u] at this
    cases this
  · rcases Int.lt_or_le s.lock 0 with h0 | h0
    · refine .inl fun u y hc _ => ?_
      have := h.oneC u y hc
      rw [h.lockN h0 u] at this
      cases this
    · have hC := h.lockC h0
      have hQ : E.QP s.lock p.1 := by rw [hf]; exact h.c2p _ _ hC
      have hle := h.own.comms _ _ hC
      rcases Int.lt_or_le s.lock s.view with hlt | hge
      · refine .inl fun u y hc hu => .inr ⟨s.lock, h.lockM u y (h.oneC u y hc), hlt, hQ⟩
      · have he : s.lock = s.view := by omega
        rw [he] at hQ
        exact .inr (hS.just _ _ hQ)
  · refine .inl fun u y hc _ => .inr ⟨p.2, Int.le_trans (h.lockM u y (h.oneC u y hc)) h1, h2, h.prepared h3⟩

theorem Loc.step (h : Loc okf E s) (hS : Sound E) (hd : s.decided = false) (hs : s.step okf = some t) (hE : E.Le F) (hc : Cov F t) : Loc okf F t := by
  have hok := (h.ok.step hd hs).1
  obtain ⟨hcame, hown⟩ := came_step hd h.own hs
  rcases step_cases hs with hs | hs | hs | hs | hs
  · obtain ⟨v, _, _, rfl⟩ := turn_some hs
    have hc' : Cov F s := ⟨hc.P, hc.C, hc.oneC, hc.D⟩
    exact { h.up hE hc' with ok := hok, own := hown }
  · obtain ⟨_, _, h3⟩ := propose_some hs
    have hc' : Cov F s := by rcases h3 with ⟨q, _, rfl⟩ | ⟨_, _, rfl⟩ <;> exact ⟨hc.P, hc.C, hc.oneC, hc.D⟩
    have hu := h.up hE hc'
    rcases h3 with ⟨q, _, rfl⟩ | ⟨_, _, rfl⟩ <;> exact { hu with ok := hok, own := hown }
  · obtain ⟨q, hq, h2, hf, rfl⟩ := prepare_some hs
    have hj := h.fits hS hf
    have hx : okf q.1 = true := by
      unfold St.fit at hf
      simp only [Bool.and_eq_true] at hf
      exact hf.1
    have hc' : Cov F s := ⟨fun v x hv => hc.P v x (at2_set2_keep h2 hv), hc.C, hc.oneC, hc.D⟩
    have hu := h.up hE hc'
    have hPn : F.P s.me s.view q.1 := hc.P _ _ (by simp only [at2_set2, and_self, if_true])
    refine { hu with ok := hok, own := hown, tabP := fun j v x hj hr hx => ?_, selfP := hc.P, acc := fun v x hv => ?_, just := fun v x hv => ?_ }
    · simp only at hx hj
      rw [at2_set2_other hj] at hx
      exact hu.tabP j v x hj hr hx
    · simp only [at2_set2] at hv
      split at hv
      · cases hv; exact hx
      · exact h.acc v x hv
    · simp only [at2_set2] at hv
      split at hv
      · rename_i hcv
        cases hv
        rw [hcv.1]
        refine hj.elim (fun hj => .inl fun u y hcc hlt => ?_) (fun hj => .inr (hj.mono hE))
        have h3 := hc.oneC u y hcc
        rcases hj u y (h.selfC u y h3) hlt with h4 | ⟨w, h4, h5, h6⟩
        · exact .inl h4
        · exact .inr ⟨w, h4, h5, h6.mono hE⟩
      · exact hu.just v x hv
  · obtain ⟨v, hp, h2, rfl⟩ := commit_some hs
    have hQ := (h.prepared hp).mono hE
    have hv0 := h.ok.view.1
    refine { n := h.n.trans hE.n.symm, ok := hok, own := hown, tabP := fun j v x hj hr hx => hE.P j v x (h.tabP j v x hj (by rw [← hE.right]; exact hr) hx), tabC := fun j u x hj hr hx => ?_, tabD := fun j x hr hx => hE.D j x (h.tabD j x (by rw [← hE.right]; exact hr) hx), selfP := hc.P, selfC := hc.C, oneC := hc.oneC, selfD := hc.D, c2p := fun u x hx => ?_, acc := h.acc, lockN := fun hl => ?_, lockC := fun _ => ?_, lockM := fun u x hx => ?_, just := fun u x hx => ?_, dec := fun hd' => ?_ }
    · simp only at hx hj
      rw [at2_set2_other hj] at hx
      exact hE.C j u x (h.tabC j u x hj (by rw [← hE.right]; exact hr) hx)
    · simp only [at2_set2] at hx
      split at hx
      · rename_i hcv; cases hx; rw [hcv.1]; exact hQ
      · exact (h.c2p u x hx).mono hE
    · simp only at hl; omega
    · simp only [at2_set2, and_self, if_true]
    · simp only [at2_set2] at hx
      split at hx
      · rename_i hcv; rw [hcv.1]; exact Int.le_refl _
      · exact h.own.comms u x hx
    · exact (h.just u x hx).elim (fun hj => .inl (hj.mono hE (h.selfP u x hx))) (fun hj => .inr (hj.mono hE))
    · obtain ⟨u, hu⟩ := h.dec hd'; exact ⟨u, hu.mono hE⟩
  · obtain ⟨v, hv, rfl⟩ := decide_some hs
    have hc' : Cov F s := ⟨hc.P, hc.C, hc.oneC, fun hd' => by rw [hd] at hd'; cases hd'⟩
    have hu := h.up hE hc'
    have hq : ∃ u, E.QC u v := by
      rcases hv with hv | hv
      · exact h.chosen hv
      · obtain ⟨W, hW, hw⟩ := hS.W
        have hm : E.many (fun k => E.D k v) (few E.n + 1) := by
          rw [← h.n]
          exact told_many h.ok.decs h.n (fun k hr hk => h.tabD k v hr hk) hv
        obtain ⟨k, hk, hD⟩ := Env.some_right W hW hw hm
        exact hS.dec k v hk hD
    obtain ⟨u, hq⟩ := hq
    exact { hu with ok := hok, own := hown, selfD := hc.D, dec := fun _ => ⟨u, hq.mono hE⟩ }
end
end Go.Proofs.Ytiofkiaibcmdhaa
