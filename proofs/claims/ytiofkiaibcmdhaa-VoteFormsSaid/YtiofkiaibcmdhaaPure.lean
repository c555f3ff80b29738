import Derived.Test.YtiofkiaibcmdhaaGrown
/-
  A core's own votes: they only come, and none turns. No program in sight.
-/
namespace Go.Proofs.Ytiofkiaibcmdhaa

/-! ### sorted lists of own votes -/

theorem isort_nodup {l : List Int} (h : l.Nodup) : (isort l).Nodup := (isort_perm l).nodup_iff.2 h

theorem isort_strict {l : List Int} (h : l.Nodup) : (isort l).Pairwise (· < ·) := by
  have h1 := isort_sorted l
  have h2 := isort_nodup h
  rw [List.nodup_iff_pairwise_ne] at h2
  have h3 := h1.and h2
  exact h3.imp fun hx => by omega

/-- The own values by views. -/
def ownL (m : List (Int × Told)) (me : Int) : List (Int × Bytes) := (isort (m.map (·.1))).filterMap fun view => (at2 m view me).map fun v => (view, v)

theorem mem_ownL {m : List (Int × Told)} {me : Int} {view : Int} {x : Bytes} : (view, x) ∈ ownL m me ↔ at2 m view me = some x := by
  unfold ownL
  rw [List.mem_filterMap]
  constructor
  · rintro ⟨v, _, hx⟩
    obtain ⟨y, hy, he⟩ := Option.map_eq_some_iff.1 hx
    cases he
    exact hy
  · intro h
    refine ⟨view, (isort_perm _).mem_iff.2 ?_, by rw [h]; rfl⟩
    unfold at2 at h
    cases hg : getV m view with
    | none => rw [hg] at h; cases h
    | some t => exact List.mem_map.2 ⟨(view, t), getV_mem hg, rfl⟩

theorem filterMap_strict {l : List Int} {f : Int → Option Bytes} (h : l.Pairwise (· < ·)) : (l.filterMap fun k => (f k).map fun v => (k, v)).Pairwise (fun a b => a.1 < b.1) := by
  induction l with
  | nil => exact List.Pairwise.nil
  | cons x l ih =>
    have h' := List.pairwise_cons.1 h
    rw [List.filterMap_cons]
    cases hx : f x with
    | none => exact ih h'.2
    | some v =>
      simp only [Option.map_some]
      refine List.pairwise_cons.2 ⟨fun y hy => ?_, ih h'.2⟩
      obtain ⟨k, hk, hm⟩ := List.mem_filterMap.1 hy
      obtain ⟨z, _, he⟩ := Option.map_eq_some_iff.1 hm
      cases he
      exact h'.1 k hk

theorem ownL_strict {m : List (Int × Told)} (h : (m.map (·.1)).Nodup) (me : Int) : (ownL m me).Pairwise (fun a b => a.1 < b.1) := filterMap_strict (isort_strict h)

theorem strict_nodup {α : Type} {l : List (Int × α)} (h : l.Pairwise (fun a b => a.1 < b.1)) : l.Nodup := by
  rw [List.nodup_iff_pairwise_ne]
  exact h.imp fun {a b} hx e => by subst e; exact Int.lt_irrefl _ hx

theorem strict_ext {α : Type} {l m : List (Int × α)} (hl : l.Pairwise (fun a b => a.1 < b.1)) (hm : m.Pairwise (fun a b => a.1 < b.1)) (h : ∀ x, x ∈ l ↔ x ∈ m) : l = m := by
  have hp : l.Perm m := (List.perm_ext_iff_of_nodup (strict_nodup hl) (strict_nodup hm)).2 h
  exact hp.eq_of_pairwise (fun a b _ _ h1 h2 => by have h1' : a.1 < b.1 := h1; have h2' : b.1 < a.1 := h2; omega) hl hm

theorem mine_own (s : St) (kind : Int) (m : List (Int × Told)) : s.mine kind m = (ownL m s.me).map fun p => ⟨kind, s.me, s.slot, p.1, -1, p.2⟩ := by
  unfold St.mine ownL
  rw [List.map_filterMap]
  congr 1
  funext view
  cases at2 m view s.me <;> rfl

theorem filter_count {m : List (Int × Told)} (hn : (m.map (·.1)).Nodup) (me : Int) : ∀ r : List (Int × Told), (∀ p ∈ r, p ∈ m) → ((r.map (·.1)).filterMap fun view => (at2 m view me).map fun v => (view, v)).length = (r.filter fun p => (getV p.2 me).isSome).length := by
  intro r
  induction r with
  | nil => intro _; rfl
  | cons p r ih =>
    intro h
    have h1 := ih fun q hq => h q (List.mem_cons_of_mem _ hq)
    have hp : getV m p.1 = some p.2 := getV_of_mem hn (h p (List.mem_cons_self ..))
    have ha : at2 m p.1 me = getV p.2 me := by unfold at2; rw [hp]; rfl
    rw [List.map_cons, List.filterMap_cons, ha, List.filter_cons]
    cases hg : getV p.2 me with
    | none => simpa using h1
    | some v => simpa using h1

theorem count_own {s : St} {m : List (Int × Told)} (hn : (m.map (·.1)).Nodup) : s.count m = ((ownL m s.me).length : Nat) := by
  have hp : (ownL m s.me).Perm ((m.map (·.1)).filterMap fun view => (at2 m view s.me).map fun v => (view, v)) := (isort_perm _).filterMap _
  rw [hp.length_eq, filter_count hn s.me m fun _ h => h]
  rfl

theorem own_same {l m : List (Int × Bytes)} (hl : l.Pairwise (fun a b => a.1 < b.1)) (hm : m.Pairwise (fun a b => a.1 < b.1)) (h : ∀ x, x ∈ l → x ∈ m) (hlen : m.length ≤ l.length) : l = m := by
  refine strict_ext hl hm fun x => ⟨h x, fun hx => Classical.byContradiction fun hn => ?_⟩
  have h1 : (x :: l).Nodup := List.nodup_cons.2 ⟨hn, strict_nodup hl⟩
  have h2 : (x :: l).Subset m := fun y hy => by
    rcases List.mem_cons.1 hy with rfl | hy
    · exact hx
    · exact h y hy
  have := h1.length_le_of_subset h2
  simp only [List.length_cons] at this
  omega

/-! ### what may come of a core -/

/-- t has come of s: its view hasn't fallen, its own votes and what is decided stay. -/
structure Came (s t : St) : Prop where
  n : t.n = s.n
  me : t.me = s.me
  slot : t.slot = s.slot
  view : s.view ≤ t.view
  preps : ∀ v x, at2 s.prepares v s.me = some x → at2 t.prepares v s.me = some x
  comms : ∀ v x, at2 s.commits v s.me = some x → at2 t.commits v s.me = some x
  decided : s.decided = true → t.decided = true ∧ t.value = s.value
  fresh : ∀ v x, at2 t.commits v s.me = some x → at2 s.commits v s.me = some x ∨ s.view ≤ v

theorem Came.refl (s : St) : Came s s := ⟨rfl, rfl, rfl, Int.le_refl _, fun _ _ h => h, fun _ _ h => h, fun h => ⟨h, rfl⟩, fun _ _ h => .inl h⟩
theorem Came.trans {s t u : St} (h : Came s t) (k : Came t u) : Came s u :=
  ⟨k.n.trans h.n, k.me.trans h.me, k.slot.trans h.slot, Int.le_trans h.view k.view, fun v x hx => by have := k.preps v x (by rw [h.me]; exact h.preps v x hx); rwa [h.me] at this,
    fun v x hx => by have := k.comms v x (by rw [h.me]; exact h.comms v x hx); rwa [h.me] at this, fun hd => ⟨(k.decided (h.decided hd).1).1, (k.decided (h.decided hd).1).2.trans (h.decided hd).2⟩, fun v x hx => by
      rcases k.fresh v x (by rw [h.me]; exact hx) with h1 | h1
      · rw [h.me] at h1; exact h.fresh v x h1
      · exact .inr (Int.le_trans h.view h1)⟩

/-- Its own votes are of its view, or of an elder one. -/
structure Own (s : St) : Prop where
  preps : ∀ v x, at2 s.prepares v s.me = some x → v ≤ s.view
  comms : ∀ v x, at2 s.commits v s.me = some x → v ≤ s.view

theorem at2_set2_other {m : List (Int × Told)} {view who v w : Int} {x : Bytes} (h : w ≠ who) : at2 (set2 m view who x) v w = at2 m v w := by
  rw [at2_set2, if_neg (fun e => h e.2)]
theorem at2_set2_keep {m : List (Int × Told)} {view who v w : Int} {x y : Bytes} (hn : at2 m view who = none) (h : at2 m v w = some y) : at2 (set2 m view who x) v w = some y := by
  rw [at2_set2]
  split
  · rename_i hc; obtain ⟨rfl, rfl⟩ := hc; rw [hn] at h; cases h
  · exact h

theorem came_step {okf : Bytes → Bool} {s t : St} (hd : s.decided = false) (ho : Own s) (h : s.step okf = some t) : Came s t ∧ Own t := by
  rcases step_cases h with h | h | h | h | h
  · obtain ⟨v, hf, hlt, rfl⟩ := turn_some h
    exact ⟨⟨rfl, rfl, rfl, by simp only; omega, fun _ _ h => h, fun _ _ h => h, fun h => ⟨h, rfl⟩, fun _ _ h => .inl h⟩, ⟨fun u x hx => by have := ho.preps u x hx; simp only; omega, fun u x hx => by have := ho.comms u x hx; simp only; omega⟩⟩
  · obtain ⟨_, _, h3⟩ := propose_some h
    rcases h3 with ⟨q, _, rfl⟩ | ⟨_, _, rfl⟩
    · exact ⟨⟨rfl, rfl, rfl, Int.le_refl _, fun _ _ h => h, fun _ _ h => h, fun h => ⟨h, rfl⟩, fun _ _ h => .inl h⟩, ⟨ho.preps, ho.comms⟩⟩
    · exact ⟨⟨rfl, rfl, rfl, Int.le_refl _, fun _ _ h => h, fun _ _ h => h, fun h => ⟨h, rfl⟩, fun _ _ h => .inl h⟩, ⟨ho.preps, ho.comms⟩⟩
  · obtain ⟨q, _, h2, _, rfl⟩ := prepare_some h
    refine ⟨⟨rfl, rfl, rfl, Int.le_refl _, fun _ _ h => at2_set2_keep h2 h, fun _ _ h => h, fun h => ⟨h, rfl⟩, fun _ _ h => .inl h⟩, ⟨fun u x hx => ?_, ho.comms⟩⟩
    simp only [at2_set2] at hx
    split at hx
    · rename_i hc; rw [hc.1]; exact Int.le_refl _
    · exact ho.preps u x hx
  · obtain ⟨v, _, h2, rfl⟩ := commit_some h
    refine ⟨⟨rfl, rfl, rfl, Int.le_refl _, fun _ _ h => h, fun _ _ h => at2_set2_keep h2 h, fun h => ⟨h, rfl⟩, fun u x hx => ?_⟩, ⟨ho.preps, fun u x hx => ?_⟩⟩
    · simp only [at2_set2] at hx
      split at hx
      · rename_i hc; rw [hc.1]; exact .inr (Int.le_refl _)
      · exact .inl hx
    simp only [at2_set2] at hx
    split at hx
    · rename_i hc; rw [hc.1]; exact Int.le_refl _
    · exact ho.comms u x hx
  · obtain ⟨v, _, rfl⟩ := decide_some h
    exact ⟨⟨rfl, rfl, rfl, Int.le_refl _, fun _ _ h => h, fun _ _ h => h, fun h => (by rw [hd] at h; cases h), fun _ _ h => .inl h⟩, ⟨ho.preps, ho.comms⟩⟩

theorem came_rest {s : St} (hd : s.decided = false) : Came s s.rest := ⟨rfl, rfl, rfl, Int.le_refl _, fun _ _ h => h, fun _ _ h => h, fun h => (by rw [hd] at h; cases h), fun _ _ h => .inl h⟩

theorem came_acts {okf : Bytes → Bool} {s u : St} (h : Acts okf s u) : Own s → Came s u ∧ Own u := by
  induction h with
  | done _ => exact fun ho => ⟨Came.refl _, ho⟩
  | stop hd _ => exact fun ho => ⟨came_rest hd, ⟨ho.preps, ho.comms⟩⟩
  | go hd hs _ ih =>
    intro ho
    obtain ⟨h1, h2⟩ := came_step hd ho hs
    obtain ⟨h3, h4⟩ := ih h2
    exact ⟨h1.trans h3, h4⟩

theorem came_know {s t : St} {v : Vt} (hf : v.from_ ≠ s.me) (h : s.know v = some t) (ho : Own s) : Came s t ∧ Own t := by
  have hf' : s.me ≠ v.from_ := fun e => hf e.symm
  unfold St.know at h
  split at h
  · split at h
    · cases h
    · cases h; exact ⟨⟨rfl, rfl, rfl, Int.le_refl _, fun _ _ h => h, fun _ _ h => h, fun h => ⟨h, rfl⟩, fun _ _ h => .inl h⟩, ⟨ho.preps, ho.comms⟩⟩
  · split at h
    · split at h
      · cases h
      · cases h
        exact ⟨⟨rfl, rfl, rfl, Int.le_refl _, fun u x h => by simp only; rw [at2_set2_other hf']; exact h, fun _ _ h => h, fun h => ⟨h, rfl⟩, fun _ _ h => .inl h⟩, ⟨fun u x hx => ho.preps u x (by simp only at hx; rwa [at2_set2_other hf'] at hx), ho.comms⟩⟩
    · split at h
      · split at h
        · cases h
        · cases h
          exact ⟨⟨rfl, rfl, rfl, Int.le_refl _, fun _ _ h => h, fun u x h => by simp only; rw [at2_set2_other hf']; exact h, fun h => ⟨h, rfl⟩, fun u x h => .inl (by simp only at h; rwa [at2_set2_other hf'] at h)⟩, ⟨ho.preps, fun u x hx => ho.comms u x (by simp only at hx; rwa [at2_set2_other hf'] at hx)⟩⟩
      · split at h
        · split at h
          · cases h
          · cases h; exact ⟨⟨rfl, rfl, rfl, Int.le_refl _, fun _ _ h => h, fun _ _ h => h, fun h => ⟨h, rfl⟩, fun _ _ h => .inl h⟩, ⟨ho.preps, ho.comms⟩⟩
        · split at h
          · cases h
          · cases h; exact ⟨⟨rfl, rfl, rfl, Int.le_refl _, fun _ _ h => h, fun _ _ h => h, fun h => ⟨h, rfl⟩, fun _ _ h => .inl h⟩, ⟨ho.preps, ho.comms⟩⟩

theorem came_note {s : St} {v : Vt} (ho : Own s) : Came s (s.note v) ∧ Own (s.note v) := by
  unfold St.note
  split
  · exact ⟨Came.refl _, ho⟩
  · exact ⟨⟨rfl, rfl, rfl, Int.le_refl _, fun _ _ h => h, fun _ _ h => h, fun h => ⟨h, rfl⟩, fun _ _ h => .inl h⟩, ⟨ho.preps, ho.comms⟩⟩

theorem hear_some {s t : St} {v : Vt} (h : s.hear v = some t) : v.slot = s.slot ∧ v.from_ ≤ s.n ∧ v.from_ ≠ s.me ∧ v.right = true ∧ ∃ u, s.know v = some u ∧ t = u.note v := by
  unfold St.hear at h
  split at h
  · cases h
  · rename_i hc
    simp only [Bool.or_eq_true, bne_iff_ne, ne_eq, decide_eq_true_eq, beq_iff_eq, Bool.not_eq_eq_eq_not, Bool.not_true, not_or, Decidable.not_not, Bool.not_eq_false] at hc
    obtain ⟨⟨⟨h1, h2⟩, h3⟩, h4⟩ := hc
    obtain ⟨u, hu, he⟩ := Option.map_eq_some_iff.1 h
    exact ⟨h1, by omega, h3, h4, u, hu, he.symm⟩

theorem came_hear {s t : St} {v : Vt} (h : s.hear v = some t) (ho : Own s) : Came s t ∧ Own t := by
  obtain ⟨_, _, h3, _, u, hu, rfl⟩ := hear_some h
  obtain ⟨c1, o1⟩ := came_know h3 hu ho
  obtain ⟨c2, o2⟩ := came_note (v := v) o1
  exact ⟨c1.trans c2, o2⟩

theorem came_late {s t : St} (h : s.late = some t) (ho : Own s) : Came s t ∧ Own t := by
  unfold St.late at h
  split at h
  · cases h
  · cases h
    exact ⟨⟨rfl, rfl, rfl, by simp only; omega, fun _ _ h => h, fun _ _ h => h, fun h => ⟨h, rfl⟩, fun _ _ h => .inl h⟩, ⟨fun u x hx => by have := ho.preps u x hx; simp only; omega, fun u x hx => by have := ho.comms u x hx; simp only; omega⟩⟩

theorem came_wished {s t : St} {l : Bytes} (h : s.wished l = some t) (ho : Own s) : Came s t ∧ Own t := by
  unfold St.wished at h
  split at h
  · cases h
  · cases h
    exact ⟨⟨rfl, rfl, rfl, Int.le_refl _, fun _ _ h => h, fun _ _ h => h, fun h => ⟨h, rfl⟩, fun _ _ h => .inl h⟩, ⟨ho.preps, ho.comms⟩⟩

theorem own_fresh (n me slot : Int) : Own (St.fresh n me slot) := ⟨fun v x h => by simp [St.fresh, at2, getV] at h, fun v x h => by simp [St.fresh, at2, getV] at h⟩

/-- A vote of its own, within its bounds. -/
def Vt.ofCore (s : St) (v : Vt) : Prop := v.from_ = s.me ∧ v.slot = s.slot ∧ v.view ≤ s.view ∧ v.right = true

theorem Vt.right_mk {v : Vt} (h1 : 1 ≤ v.kind ∧ v.kind ≤ 5) (h2 : 1 ≤ v.from_ ∧ v.from_ ≤ 64) (h3 : 0 ≤ v.slot ∧ v.slot ≤ 256) (h4 : 0 ≤ v.view ∧ v.view ≤ 1048576) (h5 : -1 ≤ v.valid ∧ v.valid ≤ 1048576) (h6 : v.value.length ≤ 4096) : v.right = true := by
  unfold Vt.right
  simp only [Bool.and_eq_true, decide_eq_true_eq]
  exact ⟨⟨⟨⟨⟨⟨⟨⟨⟨⟨h1.1, h1.2⟩, h2.1⟩, h2.2⟩, h3.1⟩, h3.2⟩, h4.1⟩, h4.2⟩, h5.1⟩, h5.2⟩, h6⟩

theorem mine_right {s : St} (ok : s.Ok) {kind : Int} (hk : 1 ≤ kind ∧ kind ≤ 5) {m : List (Int × Told)} (hm : ViewsOk s.n m) (hv : ∀ v x, at2 m v s.me = some x → v ≤ s.view) {v : Vt} (h : v ∈ s.mine kind m) : v.ofCore s := by
  rw [mine_own] at h
  obtain ⟨⟨view, x⟩, hx, rfl⟩ := List.mem_map.1 h
  have ha := mem_ownL.1 hx
  have hle := hv _ _ ha
  have hvw := ok.view
  have hme := ok.me
  have hn := ok.n
  have hlen : x.length ≤ 4096 := by
    unfold at2 at ha
    exact ((hm.get view).2 _ _ (getV_mem ha)).2.2
  have h0 : 0 ≤ view := by
    unfold at2 at ha
    cases hg : getV m view with
    | none => rw [hg] at ha; cases ha
    | some t => exact (hm.2 view t (getV_mem hg)).1
  exact ⟨rfl, rfl, hle, Vt.right_mk hk ⟨hme.1, by simp only; omega⟩ ok.slot ⟨h0, by simp only; omega⟩ ⟨by simp, by simp⟩ hlen⟩

theorem says_right {s : St} (ok : s.Ok) (ho : Own s) {v : Vt} (h : v ∈ s.says) : v.ofCore s := by
  have hvw := ok.view
  have hme := ok.me
  have hn := ok.n
  have hme' : 1 ≤ s.me ∧ s.me ≤ 64 := ⟨hme.1, by omega⟩
  unfold St.says at h
  rcases List.mem_cons.1 h with h | h
  · split at h
    · subst h
      exact ⟨rfl, rfl, hvw.1, Vt.right_mk ⟨by simp, by simp⟩ hme' ok.slot ⟨by simp, by simp⟩ ⟨by simp, by simp⟩ ok.value⟩
    · subst h
      exact ⟨rfl, rfl, Int.le_refl _, Vt.right_mk ⟨by simp, by simp⟩ hme' ok.slot hvw ⟨by simp, by simp⟩ (by simp)⟩
  · rcases List.mem_append.1 h with h | h
    · split at h
      · rename_i q hq
        have hb := ok.props.2 _ q (getV_mem hq)
        split at h
        · simp only [List.mem_singleton] at h
          subst h
          exact ⟨rfl, rfl, Int.le_refl _, Vt.right_mk ⟨by simp, by simp⟩ hme' ok.slot hvw hb.2.2.2 hb.2.2.1⟩
        · cases h
      · cases h
    · rcases List.mem_append.1 h with h | h
      · exact mine_right ok ⟨by omega, by omega⟩ ok.preps ho.preps h
      · exact mine_right ok ⟨by omega, by omega⟩ ok.comms ho.comms h

end Go.Proofs.Ytiofkiaibcmdhaa
