import Derived.Test.YtiofkiaibcmdhaaP1
/-
  The steps keep the bounds, and there are only so many of them. No program in sight.
-/
namespace Go.Proofs.Ytiofkiaibcmdhaa

theorem mem_setV {α : Type} {es : List (Int × α)} {k j : Int} {v x : α} (h : (j, x) ∈ setV es k v) : (j = k ∧ x = v) ∨ (j, x) ∈ es := by
  induction es with
  | nil => simp only [setV, List.mem_singleton, Prod.mk.injEq] at h; exact .inl h
  | cons p r ih =>
    simp only [setV] at h
    split at h
    · rcases List.mem_cons.1 h with h | h
      · simp only [Prod.mk.injEq] at h; exact .inl h
      · exact .inr (List.mem_cons_of_mem _ h)
    · rcases List.mem_cons.1 h with h | h
      · exact .inr (List.mem_cons.2 (.inl h))
      · rcases ih h with h | h
        · exact .inl h
        · exact .inr (List.mem_cons_of_mem _ h)

theorem ToldOk.set {n : Int} {t : Told} (h : ToldOk n t) {k : Int} {v : Bytes} (h1 : 1 ≤ k) (h2 : k ≤ n) (h3 : v.length ≤ 4096) : ToldOk n (setV t k v) := by
  refine ⟨setV_nodup h.1 k v, fun j x hm => ?_⟩
  rcases mem_setV hm with ⟨rfl, rfl⟩ | hm
  · exact ⟨h1, h2, h3⟩
  · exact h.2 j x hm
theorem ViewsOk.set {n : Int} {t : List (Int × Told)} (h : ViewsOk n t) {view who : Int} {v : Bytes} (h0 : 0 ≤ view ∧ view ≤ 1048576) (h1 : 1 ≤ who) (h2 : who ≤ n) (h3 : v.length ≤ 4096) : ViewsOk n (set2 t view who v) := by
  refine ⟨setV_nodup h.1 _ _, fun j x hm => ?_⟩
  rcases mem_setV hm with ⟨rfl, rfl⟩ | hm
  · exact ⟨h0.1, h0.2, (h.get j).set h1 h2 h3⟩
  · exact h.2 j x hm

theorem at2_set2 (m : List (Int × Told)) (view who v2 w2 : Int) (x : Bytes) : at2 (set2 m view who x) v2 w2 = if v2 = view ∧ w2 = who then some x else at2 m v2 w2 := by
  unfold at2 set2
  rw [getV_setV]
  by_cases h : v2 = view
  · subst h
    simp only [true_and, if_true, Option.getD_some, getV_setV]
  · simp [h]

/-- How many steps are left at most. -/
def St.left (s : St) : Nat := (if s.decided then 0 else 1) + (if (getV s.proposals s.view).isSome then 0 else 1) + (if (at2 s.prepares s.view s.me).isSome then 0 else 1) + (if (at2 s.commits s.view s.me).isSome then 0 else 1) + 4 * (1048577 - s.view).toNat

theorem far_mem {s : St} {v : Int} (h : s.far = some v) : ∃ k, (k, v) ∈ s.seen := by
  unfold St.far at h
  split at h
  · cases h
  · have := (isort_perm _).mem_iff.1 (List.mem_of_getElem? h)
    obtain ⟨⟨k, x⟩, hm, rfl⟩ := List.mem_map.1 this
    exact ⟨k, hm⟩

theorem turn_some {s t : St} (h : s.turn = some t) : ∃ v, s.far = some v ∧ s.view < v ∧ t = { s with view := v } := by
  unfold St.turn at h
  split at h
  · rename_i v hv
    split at h
    · cases h
    · cases h; exact ⟨v, hv, by omega, rfl⟩
  · cases h
theorem propose_some {s t : St} (h : s.propose = some t) : getV s.proposals s.view = none ∧ s.proposer s.view = s.me ∧
    ((∃ q, s.best s.view = some q ∧ t = { s with proposals := setV s.proposals s.view (q.2, q.1) }) ∨ (s.best s.view = none ∧ s.wishes = true ∧ t = { s with proposals := setV s.proposals s.view (s.wish, -1) })) := by
  unfold St.propose at h
  split at h
  · cases h
  · rename_i hc
    simp only [Bool.or_eq_true, bne_iff_ne, ne_eq, not_or, Decidable.not_not, Option.not_isSome_iff_eq_none] at hc
    refine ⟨hc.1, hc.2, ?_⟩
    split at h
    · rename_i view v hb; cases h; exact .inl ⟨(view, v), hb, rfl⟩
    · rename_i hb
      split at h
      · rename_i hw; cases h; exact .inr ⟨hb, hw, rfl⟩
      · cases h
theorem prepare_some {okf : Bytes → Bool} {s t : St} (h : s.prepare okf = some t) : ∃ q, getV s.proposals s.view = some q ∧ at2 s.prepares s.view s.me = none ∧ s.fit okf q = true ∧ t = { s with prepares := set2 s.prepares s.view s.me q.1 } := by
  unfold St.prepare at h
  split at h
  · rename_i q hq
    split at h
    · rename_i hc
      simp only [Bool.and_eq_true, Option.isNone_iff_eq_none] at hc
      cases h; exact ⟨q, hq, hc.1, hc.2, rfl⟩
    · cases h
  · cases h
theorem commit_some {s t : St} (h : s.commit = some t) : ∃ v, s.prepared s.view = some v ∧ at2 s.commits s.view s.me = none ∧ t = { s with lock := s.view, locked := v, commits := set2 s.commits s.view s.me v } := by
  unfold St.commit at h
  split at h
  · rename_i v hv
    split at h
    · rename_i hc
      simp only [Option.isNone_iff_eq_none] at hc
      cases h; exact ⟨v, hv, hc, rfl⟩
    · cases h
  · cases h
theorem decide_some {s t : St} (h : s.decide' = some t) : ∃ v, (s.chosen = some v ∨ maj s.deciders (few s.n + 1) = some v) ∧ t = { s with decided := true, value := v } := by
  unfold St.decide' at h
  split at h
  · rename_i v hv; cases h; exact ⟨v, .inl hv, rfl⟩
  · split at h
    · rename_i v hv; cases h; exact ⟨v, .inr hv, rfl⟩
    · cases h

theorem step_cases {okf : Bytes → Bool} {s t : St} (h : s.step okf = some t) : s.turn = some t ∨ s.propose = some t ∨ s.prepare okf = some t ∨ s.commit = some t ∨ s.decide' = some t := by
  unfold St.step at h
  cases h1 : s.turn <;> cases h2 : s.propose <;> cases h3 : s.prepare okf <;> cases h4 : s.commit <;> simp_all

theorem chosen_length {s : St} (ok : s.Ok) {v : Bytes} (h : s.chosen = some v) : v.length ≤ 4096 := by
  obtain ⟨k, _, hk⟩ := List.exists_of_findSome?_eq_some h
  exact maj_length (ok.comms.get k) hk

theorem St.Ok.step {okf : Bytes → Bool} {s t : St} (ok : s.Ok) (hd : s.decided = false) (h : s.step okf = some t) : t.Ok ∧ t.left < s.left := by
  have hv := ok.view
  rcases step_cases h with h | h | h | h | h
  · obtain ⟨v, hf, hlt, rfl⟩ := turn_some h
    obtain ⟨k, hm⟩ := far_mem hf
    have hb := ok.seen.2 k v hm
    refine ⟨{ ok with view := ⟨hb.2.2.1, hb.2.2.2⟩ }, ?_⟩
    unfold St.left
    dsimp only
    repeat' split
    all_goals omega
  · obtain ⟨h1, h2, h3⟩ := propose_some h
    rcases h3 with ⟨q, hq, rfl⟩ | ⟨hq, hw, rfl⟩
    · have hb := best_get hq
      have hl := best_length ok hq
      obtain ⟨⟨k, t⟩, hm, hk⟩ := List.mem_map.1 hb.2.2
      simp only at hk
      have hkv := ok.preps.2 k t hm
      refine ⟨{ ok with props := ⟨setV_nodup ok.props.1 _ _, fun j x hm => ?_⟩ }, ?_⟩
      · rcases mem_setV hm with ⟨rfl, rfl⟩ | hm
        · exact ⟨hv.1, hv.2, hl, by simp only; omega, by simp only; omega⟩
        · exact ok.props.2 j x hm
      · unfold St.left
        simp only [getV_setV, if_true, h1, Option.isSome_none, Option.isSome_some]
        repeat' split
        all_goals first | omega | simp_all
    · refine ⟨{ ok with props := ⟨setV_nodup ok.props.1 _ _, fun j x hm => ?_⟩ }, ?_⟩
      · rcases mem_setV hm with ⟨rfl, rfl⟩ | hm
        · exact ⟨hv.1, hv.2, ok.wish, by simp, by simp⟩
        · exact ok.props.2 j x hm
      · unfold St.left
        simp only [getV_setV, if_true, h1, Option.isSome_none, Option.isSome_some]
        repeat' split
        all_goals first | omega | simp_all
  · obtain ⟨q, h1, h2, _, rfl⟩ := prepare_some h
    have hq := ok.props.2 _ q (getV_mem h1)
    refine ⟨{ ok with preps := ok.preps.set hv ok.me.1 ok.me.2 hq.2.2.1 }, ?_⟩
    unfold St.left
    simp only [at2_set2, and_self, if_true, h2, Option.isSome_none, Option.isSome_some]
    repeat' split
    all_goals first | omega | simp_all
  · obtain ⟨v, h1, h2, rfl⟩ := commit_some h
    have hl := prepared_length ok h1
    refine ⟨{ ok with comms := ok.comms.set hv ok.me.1 ok.me.2 hl, lock := ⟨by have := hv.1; simp only; omega, hv.2⟩, locked := hl }, ?_⟩
    unfold St.left
    simp only [at2_set2, and_self, if_true, h2, Option.isSome_none, Option.isSome_some]
    repeat' split
    all_goals first | omega | simp_all
  · obtain ⟨v, h1, rfl⟩ := decide_some h
    have hl : v.length ≤ 4096 := by
      rcases h1 with h1 | h1
      · exact chosen_length ok h1
      · exact maj_length ok.decs h1
    refine ⟨{ ok with value := hl }, ?_⟩
    unfold St.left
    simp only [hd, if_true]
    repeat' split
    all_goals first | omega | simp_all

theorem St.Ok.rest {s : St} (ok : s.Ok) : s.rest.Ok := { ok with value := by simp [St.rest] }

theorem exists_least {p : Nat → Prop} : ∀ n, p n → ∃ n, p n ∧ ∀ m, p m → n ≤ m := by
  intro n
  induction n using Nat.strongRecOn with
  | _ n ih =>
    intro h
    by_cases hl : ∃ m, m < n ∧ p m
    · obtain ⟨m, hm, hp⟩ := hl
      exact ih m hm hp
    · exact ⟨n, h, fun m hp => Nat.le_of_not_lt fun hlt => hl ⟨m, hlt, hp⟩⟩

open Classical in
/-- The least number of which it is true. -/
noncomputable def leastOf (p : Nat → Prop) : Nat := if h : ∃ n, p n ∧ ∀ m, p m → n ≤ m then Classical.choose h else 0
theorem leastOf_spec {p : Nat → Prop} (h : ∃ n, p n) : p (leastOf p) := by
  obtain ⟨n, hn⟩ := h
  have := exists_least n hn
  unfold leastOf
  rw [dif_pos this]
  exact (Classical.choose_spec this).1
theorem leastOf_le {p : Nat → Prop} {n : Nat} (h : p n) : leastOf p ≤ n := by
  have := exists_least n h
  unfold leastOf
  rw [dif_pos this]
  exact (Classical.choose_spec this).2 n h
end Go.Proofs.Ytiofkiaibcmdhaa
