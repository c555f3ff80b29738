import Derived.Test.YtiofkiaibcmdhaaSafe
/-
  Whatever happens among peers of whom at most f are wrong: no two right ones decide unlike values, and what one told stays told. No program in sight.
-/
namespace Go.Proofs.Ytiofkiaibcmdhaa

/-- A peer's core, by its number. -/
def coreOf (l : List St) (k : Int) : Option St := if 1 ≤ k then l[(k - 1).toNat]? else none
def isRight (wrong : List Bool) (k : Int) : Prop := 1 ≤ k ∧ wrong[(k - 1).toNat]? = some false
def envOf (n : Int) (wrong : List Bool) (l : List St) : Env where
  n := n
  right := isRight wrong
  P := fun k v x => ∃ s, coreOf l k = some s ∧ at2 s.prepares v k = some x
  C := fun k v x => ∃ s, coreOf l k = some s ∧ at2 s.commits v k = some x
  D := fun k x => ∃ s, coreOf l k = some s ∧ s.decided = true ∧ s.value = x

/-- The own votes of a map alone. -/
def onlyOwn (m : List (Int × Told)) (me : Int) : List (Int × Told) := (ownL m me).map fun p => (p.1, [(me, p.2)])
/-- A core that begins anew from what lasts. -/
def St.anew (s : St) : St := { St.fresh s.n s.me s.slot with
  view := s.view, prepares := onlyOwn s.prepares s.me, commits := onlyOwn s.commits s.me, decided := s.decided, value := if s.decided then s.value else [],
  lock := match (ownL s.commits s.me).getLast? with | some p => p.1 | none => -1,
  locked := match (ownL s.commits s.me).getLast? with | some p => p.2 | none => [] }

structure Peer (n slot : Int) (i : Nat) (s : St) : Prop where
  n : s.n = n
  me : s.me = (i : Int) + 1
  slot : s.slot = slot
  ok : s.Ok
  own : Own s

structure Safe (okf : Bytes → Bool) (n slot : Int) (wrong : List Bool) (l : List St) : Prop where
  n4 : 4 ≤ n
  len : (l.length : Int) = n
  lenw : (wrong.length : Int) = n
  W : ∃ W : List Int, W.length ≤ few n ∧ ∀ k, 1 ≤ k → k ≤ n → ¬ isRight wrong k → k ∈ W
  each : ∀ (i : Nat) s, l[i]? = some s → Peer n slot i s
  loc : ∀ (i : Nat) s, l[i]? = some s → wrong[i]? = some false → Loc okf (envOf n wrong l) s

section
variable {okf : Bytes → Bool} {n slot : Int} {wrong : List Bool} {l : List St} {s t : St}

theorem coreOf_me {i : Nat} : coreOf l ((i : Int) + 1) = l[i]? := by
  unfold coreOf
  rw [if_pos (by omega), show ((i : Int) + 1 - 1).toNat = i by omega]
theorem coreOf_some {k : Int} (h : coreOf l k = some s) : ∃ i : Nat, k = (i : Int) + 1 ∧ l[i]? = some s := by
  unfold coreOf at h
  split at h
  · exact ⟨(k - 1).toNat, by omega, h⟩
  · cases h
theorem right_me {i : Nat} : isRight wrong ((i : Int) + 1) ↔ wrong[i]? = some false := by
  unfold isRight
  rw [show ((i : Int) + 1 - 1).toNat = i by omega]
  exact ⟨fun h => h.2, fun h => ⟨by omega, h⟩⟩
theorem coreOf_set {i : Nat} (hi : l[i]? = some s) (k : Int) : coreOf (l.set i t) k = if k = (i : Int) + 1 then some t else coreOf l k := by
  have hlt := (List.getElem?_eq_some_iff.1 hi).1
  unfold coreOf
  by_cases h1 : 1 ≤ k
  · rw [if_pos h1, if_pos h1, List.getElem?_set]
    by_cases hk : k = (i : Int) + 1
    · rw [if_pos hk, if_pos (by omega), if_pos hlt]
    · rw [if_neg hk, if_neg (by omega)]
  · rw [if_neg h1, if_neg h1, if_neg (by omega)]

theorem Safe.sound (h : Safe okf n slot wrong l) : Sound (envOf n wrong l) where
  n := h.n4
  W := h.W
  just := fun v x hq => by
    obtain ⟨S, h1, h2, h3⟩ := hq
    by_cases hall : ∀ k ∈ S, isRight wrong k → (envOf n wrong l).J k v x
    · exact ⟨S, h1, fun k hk => ⟨(h2 k hk).1, (h2 k hk).2.1, fun hr => ⟨(h2 k hk).2.2 hr, hall k hk hr⟩⟩, h3⟩
    · simp only [Classical.not_forall] at hall
      obtain ⟨k, hk, hr, hj⟩ := hall
      obtain ⟨s, hs, hp⟩ := (h2 k hk).2.2 hr
      obtain ⟨i, rfl, hi⟩ := coreOf_some hs
      have hL := h.loc i s hi (right_me.1 hr)
      have hme := (h.each i s hi).me
      rcases hL.just v x (by rw [hme]; exact hp) with h4 | h4
      · rw [hme] at h4; exact absurd h4 hj
      · exact h4
  dec := fun j x hr hD => by
    obtain ⟨s, hs, hd, hv⟩ := hD
    obtain ⟨i, rfl, hi⟩ := coreOf_some hs
    obtain ⟨u, hu⟩ := (h.loc i s hi (right_me.1 hr)).dec hd
    exact ⟨u, by rw [← hv]; exact hu⟩

theorem envOf_le (h : Safe okf n slot wrong l) {i : Nat} (hi : l[i]? = some s) (hc : Came s t) : (envOf n wrong l).Le (envOf n wrong (l.set i t)) := by
  have hp := h.each i s hi
  have hat : ∀ q, coreOf l ((i : Int) + 1) = some q → q = s := fun q hq => by rw [coreOf_me, hi] at hq; injection hq with hq; exact hq.symm
  have hme := hp.me
  refine ⟨rfl, rfl, ?_, ?_, ?_, ?_⟩
  · rintro k v x ⟨q, hq, hx⟩
    by_cases hk : k = (i : Int) + 1
    · subst hk
      obtain rfl := hat q hq
      exact ⟨t, by rw [coreOf_set hi, if_pos rfl], by rw [← hme]; exact hc.preps v x (by rw [hme]; exact hx)⟩
    · exact ⟨q, by rw [coreOf_set hi, if_neg hk]; exact hq, hx⟩
  · rintro k v x ⟨q, hq, hx⟩
    by_cases hk : k = (i : Int) + 1
    · subst hk
      obtain rfl := hat q hq
      exact ⟨t, by rw [coreOf_set hi, if_pos rfl], by rw [← hme]; exact hc.comms v x (by rw [hme]; exact hx)⟩
    · exact ⟨q, by rw [coreOf_set hi, if_neg hk]; exact hq, hx⟩
  · rintro k x ⟨q, hq, hd, hv⟩
    by_cases hk : k = (i : Int) + 1
    · subst hk
      obtain rfl := hat q hq
      exact ⟨t, by rw [coreOf_set hi, if_pos rfl], (hc.decided hd).1, (hc.decided hd).2.trans hv⟩
    · exact ⟨q, by rw [coreOf_set hi, if_neg hk]; exact hq, hd, hv⟩
  · rintro k u y ⟨q, hq, hx⟩
    rw [coreOf_set hi] at hq
    by_cases hk : k = (i : Int) + 1
    · rw [if_pos hk] at hq
      injection hq with hq
      subst hq
      subst hk
      rcases hc.fresh u y (by rw [hme]; exact hx) with h1 | h1
      · exact .inl ⟨s, by rw [coreOf_me]; exact hi, by rw [← hme]; exact h1⟩
      · refine .inr ?_
        rintro v x ⟨q, hq, hx⟩
        obtain rfl := hat q hq
        have := hp.own.preps v x (by rw [hme]; exact hx)
        omega
    · rw [if_neg hk] at hq
      exact .inl ⟨q, hq, hx⟩

theorem cov_of {i : Nat} (hi : l[i]? = some s) (hm : s.me = (i : Int) + 1) : Cov (envOf n wrong l) s := by
  have hco : coreOf l s.me = some s := by rw [hm, coreOf_me]; exact hi
  refine ⟨fun v x hx => ⟨s, hco, hx⟩, fun v x hx => ⟨s, hco, hx⟩, ?_, fun hd => ⟨s, hco, hd, rfl⟩⟩
  rintro v x ⟨q, hq, hx⟩
  rw [hco] at hq
  injection hq with hq
  subst hq
  exact hx

/-- A core turns. -/
theorem Safe.put (h : Safe okf n slot wrong l) {i : Nat} (hi : l[i]? = some s) (hc : Came s t) (hok : t.Ok) (hown : Own t) (hl : wrong[i]? = some false → Loc okf (envOf n wrong (l.set i t)) t) : Safe okf n slot wrong (l.set i t) := by
  have hp := h.each i s hi
  have hlt := (List.getElem?_eq_some_iff.1 hi).1
  have hpeer : ∀ (j : Nat) q, (l.set i t)[j]? = some q → Peer n slot j q := fun j q hj => by
    rw [List.getElem?_set] at hj
    split at hj
    · rename_i he
      subst he
      injection hj with hj
      subst hj
      exact ⟨hc.n.trans hp.n, hc.me.trans hp.me, hc.slot.trans hp.slot, hok, hown⟩
    · exact h.each j q hj
  refine ⟨h.n4, by rw [List.length_set]; exact h.len, h.lenw, h.W, hpeer, fun j q hj hr => ?_⟩
  have hj' := hj
  rw [List.getElem?_set] at hj
  split at hj
  · rename_i he
    subst he
    injection hj with hj
    subst hj
    exact hl hr
  · exact (h.loc j q hj hr).up (envOf_le h hi hc) (cov_of hj' (hpeer j q hj').me)

theorem set_self {i : Nat} (hi : l[i]? = some s) : l.set i s = l := by
  refine List.ext_getElem? fun j => ?_
  rw [List.getElem?_set]
  split
  · rename_i he; subst he; rw [if_pos (List.getElem?_eq_some_iff.1 hi).1, hi]
  · rfl

/-- A core turns in one way whose local law is known. -/
theorem Safe.turned (h : Safe okf n slot wrong l) {i : Nat} (hi : l[i]? = some s) (hc : Came s t) (hok : t.Ok) (hown : Own t)
    (hl : ∀ F, (envOf n wrong l).Le F → Cov F t → isRight wrong s.me → Loc okf (envOf n wrong l) s → Loc okf F t) : Safe okf n slot wrong (l.set i t) := by
  have hp := h.each i s hi
  have hlt := (List.getElem?_eq_some_iff.1 hi).1
  refine h.put hi hc hok hown fun hr => hl _ (envOf_le h hi hc) ?_ (by rw [hp.me]; exact right_me.2 hr) (h.loc i s hi hr)
  exact cov_of (by rw [List.getElem?_set_self hlt]) (hc.me.trans hp.me)

theorem Safe.step (h : Safe okf n slot wrong l) {i : Nat} (hi : l[i]? = some s) (hd : s.decided = false) (hs : s.step okf = some t) : Safe okf n slot wrong (l.set i t) := by
  have hp := h.each i s hi
  obtain ⟨hc, ho⟩ := came_step hd hp.own hs
  exact h.turned hi hc (hp.ok.step hd hs).1 ho fun F hE hcov hr hL => hL.step h.sound hd hs hE hcov

theorem Safe.rest (h : Safe okf n slot wrong l) {i : Nat} (hi : l[i]? = some s) (hd : s.decided = false) : Safe okf n slot wrong (l.set i s.rest) := by
  have hp := h.each i s hi
  refine h.turned hi (came_rest hd) hp.ok.rest ⟨hp.own.preps, hp.own.comms⟩ fun F hE hcov hr hL => ?_
  have hc' : Cov F s := ⟨hcov.P, hcov.C, hcov.oneC, fun hd' => by rw [hd] at hd'; cases hd'⟩
  exact { hL.up hE hc' with ok := hp.ok.rest, own := ⟨hp.own.preps, hp.own.comms⟩, selfD := hcov.D, dec := fun hd' => by cases hd' }

theorem set_set {i : Nat} {u : St} : (l.set i t).set i u = l.set i u := by
  refine List.ext_getElem? fun j => ?_
  simp only [List.getElem?_set, List.length_set]
  split <;> rfl

theorem Safe.acts {u : St} (ha : Acts okf s u) : ∀ {l : List St} {i : Nat}, Safe okf n slot wrong l → l[i]? = some s → Safe okf n slot wrong (l.set i u) := by
  induction ha with
  | done _ => intro l i h hi; rw [set_self hi]; exact h
  | stop hd _ => intro l i h hi; exact h.rest hi hd
  | @go s t u hd hs _ ih =>
    intro l i h hi
    have h2 := h.step hi hd hs
    have hlt := (List.getElem?_eq_some_iff.1 hi).1
    have h3 := ih h2 (List.getElem?_set_self hlt)
    rwa [set_set] at h3

/-- What a right peer tells, or anything of a wrong one. -/
def Told' (E : Env) (v : Vt) : Prop := E.right v.from_ → (v.kind = 2 → E.P v.from_ v.view v.value) ∧ (v.kind = 3 → E.C v.from_ v.view v.value) ∧ (v.kind = 4 → E.D v.from_ v.value)

theorem Loc.hear {E F : Env} {v : Vt} (h : Loc okf E s) (ho : s.hear v = some t) (hok : t.Ok) (ht : Told' E v) (hE : E.Le F) (hc : Cov F t) : Loc okf F t := by
  obtain ⟨_, hfn, hfm, hvr, u, hu, rfl⟩ := hear_some ho
  obtain ⟨hcame, hown⟩ := came_hear ho h.own
  have hfm' : s.me ≠ v.from_ := fun e => hfm e.symm
  obtain ⟨hk15, _⟩ := Vt.right_spec hvr
  have hnote : (u.note v).prepares = u.prepares ∧ (u.note v).commits = u.commits ∧ (u.note v).deciders = u.deciders ∧ (u.note v).me = u.me ∧ (u.note v).lock = u.lock ∧ (u.note v).locked = u.locked ∧ (u.note v).decided = u.decided ∧ (u.note v).value = u.value ∧ (u.note v).n = u.n := by
    unfold St.note; split <;> exact ⟨rfl, rfl, rfl, rfl, rfl, rfl, rfl, rfl, rfl⟩
  obtain ⟨n1, n2, n3, n4, n5, n6, n7, n8, n9⟩ := hnote
  have key : u.n = s.n ∧ u.me = s.me ∧ u.lock = s.lock ∧ u.locked = s.locked ∧ u.decided = s.decided ∧ u.value = s.value ∧
      (∀ w x, at2 u.prepares w s.me = at2 s.prepares w s.me ∧ (∀ j, at2 u.prepares w j = some x → at2 s.prepares w j = some x ∨ (j = v.from_ ∧ w = v.view ∧ x = v.value ∧ v.kind = 2))) ∧
      (∀ w x, at2 u.commits w s.me = at2 s.commits w s.me ∧ (∀ j, at2 u.commits w j = some x → at2 s.commits w j = some x ∨ (j = v.from_ ∧ w = v.view ∧ x = v.value ∧ v.kind = 3))) ∧
      (∀ j x, getV u.deciders j = some x → getV s.deciders j = some x ∨ (j = v.from_ ∧ x = v.value ∧ v.kind = 4)) := by
    unfold St.know at hu
    split at hu
    · split at hu
      · cases hu
      · cases hu; exact ⟨rfl, rfl, rfl, rfl, rfl, rfl, fun w x => ⟨rfl, fun j hx => .inl hx⟩, fun w x => ⟨rfl, fun j hx => .inl hx⟩, fun j x hx => .inl hx⟩
    · split at hu
      · rename_i hk
        split at hu
        · cases hu
        · cases hu
          refine ⟨rfl, rfl, rfl, rfl, rfl, rfl, fun w x => ⟨at2_set2_other hfm', fun j hx => ?_⟩, fun w x => ⟨rfl, fun j hx => .inl hx⟩, fun j x hx => .inl hx⟩
          simp only [at2_set2] at hx
          split at hx
          · rename_i hc; cases hx; exact .inr ⟨hc.2, hc.1, rfl, hk⟩
          · exact .inl hx
      · split at hu
        · rename_i hk
          split at hu
          · cases hu
          · cases hu
            refine ⟨rfl, rfl, rfl, rfl, rfl, rfl, fun w x => ⟨rfl, fun j hx => .inl hx⟩, fun w x => ⟨at2_set2_other hfm', fun j hx => ?_⟩, fun j x hx => .inl hx⟩
            simp only [at2_set2] at hx
            split at hx
            · rename_i hc; cases hx; exact .inr ⟨hc.2, hc.1, rfl, hk⟩
            · exact .inl hx
        · split at hu
          · split at hu
            · cases hu
            · cases hu; exact ⟨rfl, rfl, rfl, rfl, rfl, rfl, fun w x => ⟨rfl, fun j hx => .inl hx⟩, fun w x => ⟨rfl, fun j hx => .inl hx⟩, fun j x hx => .inl hx⟩
          · rename_i k1 k2 k3 k5
            split at hu
            · cases hu
            · cases hu
              refine ⟨rfl, rfl, rfl, rfl, rfl, rfl, fun w x => ⟨rfl, fun j hx => .inl hx⟩, fun w x => ⟨rfl, fun j hx => .inl hx⟩, fun j x hx => ?_⟩
              simp only [getV_setV] at hx
              split at hx
              · rename_i hc; cases hx; exact .inr ⟨hc, rfl, by omega⟩
              · exact .inl hx
  obtain ⟨q1, q2, q3, q4, q5, q6, qP, qC, qD⟩ := key
  have me' : (u.note v).me = s.me := n4.trans q2
  have hc' : Cov F s := ⟨fun w x hx => by have := hc.P w x (by rw [n1, me', (qP w x).1]; exact hx); rwa [me'] at this, fun w x hx => by have := hc.C w x (by rw [n2, me', (qC w x).1]; exact hx); rwa [me'] at this,
    fun w x hx => by have := hc.oneC w x (by rw [me']; exact hx); rw [n2, me', (qC w x).1] at this; exact this, fun hd => by have := hc.D (by rw [n7, q5]; exact hd); rw [me', n8, q6] at this; exact this⟩
  have hu' := h.up hE hc'
  refine { n := by rw [n9, q1]; exact hu'.n, ok := hok, own := hown, tabP := fun j w x hj hr hx => ?_, tabC := fun j w x hj hr hx => ?_, tabD := fun j x hr hx => ?_, selfP := hc.P, selfC := hc.C, oneC := hc.oneC, selfD := hc.D, c2p := fun w x hx => ?_, acc := fun w x hx => ?_, lockN := fun hl w => ?_, lockC := fun hl => ?_, lockM := fun w x hx => ?_, just := fun w x hx => ?_, dec := fun hd => ?_ }
  · rw [me'] at hj
    rw [n1] at hx
    rcases (qP w x).2 j hx with h1 | ⟨h1, h2, h3, h4⟩
    · exact hu'.tabP j w x hj hr h1
    · subst h1; subst h2; subst h3
      exact hE.P _ _ _ ((ht (by rw [← hE.right]; exact hr)).1 h4)
  · rw [me'] at hj
    rw [n2] at hx
    rcases (qC w x).2 j hx with h1 | ⟨h1, h2, h3, h4⟩
    · exact hu'.tabC j w x hj hr h1
    · subst h1; subst h2; subst h3
      exact hE.C _ _ _ ((ht (by rw [← hE.right]; exact hr)).2.1 h4)
  · rw [n3] at hx
    rcases qD j x hx with h1 | ⟨h1, h2, h3⟩
    · exact hu'.tabD j x hr h1
    · subst h1; subst h2
      exact hE.D _ _ ((ht (by rw [← hE.right]; exact hr)).2.2 h3)
  · rw [n2, me', (qC w x).1] at hx; exact hu'.c2p w x hx
  · rw [n1, me', (qP w x).1] at hx; exact hu'.acc w x hx
  · rw [n5, q3] at hl; rw [n2, me', (qC w []).1]; exact hu'.lockN hl w
  · rw [n5, q3] at hl; rw [n2, n5, n6, me', q3, q4, (qC _ []).1]; exact hu'.lockC hl
  · rw [n2, me', (qC w x).1] at hx; rw [n5, q3]; exact hu'.lockM w x hx
  · rw [n1, me', (qP w x).1] at hx; rw [me']; exact hu'.just w x hx
  · rw [n7, q5] at hd; rw [n8, q6]; exact hu'.dec hd

theorem says_told {E : Env} {v : Vt} (h : Loc okf E s) (hv : v ∈ s.says) : Told' E v := by
  intro _
  unfold St.says at hv
  rcases List.mem_cons.1 hv with hv | hv
  · split at hv
    · rename_i hd
      subst hv
      exact ⟨fun h => by simp at h, fun h => by simp at h, fun _ => h.selfD hd⟩
    · subst hv
      exact ⟨fun h => by simp at h, fun h => by simp at h, fun h => by simp at h⟩
  · rcases List.mem_append.1 hv with hv | hv
    · split at hv
      · split at hv
        · simp only [List.mem_singleton] at hv
          subst hv
          exact ⟨fun h => by simp at h, fun h => by simp at h, fun h => by simp at h⟩
        · cases hv
      · cases hv
    · rcases List.mem_append.1 hv with hv | hv
      · rw [mine_own] at hv
        obtain ⟨⟨w, x⟩, hx, rfl⟩ := List.mem_map.1 hv
        exact ⟨fun _ => h.selfP w x (mem_ownL.1 hx), fun h => by simp at h, fun h => by simp at h⟩
      · rw [mine_own] at hv
        obtain ⟨⟨w, x⟩, hx, rfl⟩ := List.mem_map.1 hv
        exact ⟨fun h => by simp at h, fun _ => h.selfC w x (mem_ownL.1 hx), fun h => by simp at h⟩

theorem says_from {v : Vt} (hv : v ∈ s.says) : v.from_ = s.me := by
  unfold St.says at hv
  rcases List.mem_cons.1 hv with hv | hv
  · split at hv <;> (subst hv; rfl)
  · rcases List.mem_append.1 hv with hv | hv
    · split at hv
      · split at hv
        · simp only [List.mem_singleton] at hv; subst hv; rfl
        · cases hv
      · cases hv
    · rcases List.mem_append.1 hv with hv | hv <;> (rw [mine_own] at hv; obtain ⟨_, _, rfl⟩ := List.mem_map.1 hv; rfl)

/-! ### beginning anew -/

theorem getV_onlyOwn {L : List (Int × Bytes)} {me w : Int} : getV (L.map fun p => (p.1, [(me, p.2)])) w = (getV L w).map fun x => [(me, x)] := by
  induction L with
  | nil => rfl
  | cons p L ih =>
    simp only [List.map_cons, getV]
    split
    · rfl
    · exact ih
theorem ownL_keys_nodup {m : List (Int × Told)} (h : (m.map (·.1)).Nodup) (me : Int) : ((ownL m me).map (·.1)).Nodup := by
  rw [List.nodup_iff_pairwise_ne, List.pairwise_map]
  exact (ownL_strict h me).imp fun hx => by omega
theorem getV_ownL {m : List (Int × Told)} (h : (m.map (·.1)).Nodup) (me w : Int) : getV (ownL m me) w = at2 m w me := by
  cases hg : at2 m w me with
  | some x => exact getV_of_mem (ownL_keys_nodup h me) (mem_ownL.2 hg)
  | none =>
    refine getV_none.2 fun hm => ?_
    obtain ⟨⟨v, x⟩, hx, rfl⟩ := List.mem_map.1 hm
    have := mem_ownL.1 hx
    rw [hg] at this
    cases this
theorem at2_onlyOwn {m : List (Int × Told)} (h : (m.map (·.1)).Nodup) (me w j : Int) : at2 (onlyOwn m me) w j = if j = me then at2 m w me else none := by
  unfold onlyOwn
  have h1 := getV_onlyOwn (L := ownL m me) (me := me) (w := w)
  unfold at2 at *
  rw [h1, getV_ownL h]
  unfold at2
  cases hg : getV ((getV m w).getD []) me with
  | none => simp [getV]
  | some x =>
    simp only [Option.map_some, Option.getD_some, getV]
    by_cases hj : j = me
    · simp [hj]
    · rw [if_neg hj, if_neg (fun e => hj e.symm)]
theorem keys_onlyOwn {m : List (Int × Told)} {me : Int} : (onlyOwn m me).map (·.1) = (ownL m me).map (·.1) := by
  unfold onlyOwn; rw [List.map_map]; rfl

theorem viewsOk_onlyOwn {m : List (Int × Told)} {k me : Int} (h : ViewsOk k m) : ViewsOk k (onlyOwn m me) := by
  refine ⟨by rw [keys_onlyOwn]; exact ownL_keys_nodup h.1 me, fun w t hm => ?_⟩
  unfold onlyOwn at hm
  obtain ⟨⟨v, x⟩, hx, he⟩ := List.mem_map.1 hm
  cases he
  have ha := mem_ownL.1 hx
  unfold at2 at ha
  cases hg : getV m v with
  | none => rw [hg] at ha; cases ha
  | some tb =>
    rw [hg] at ha
    have hb := h.2 v tb (getV_mem hg)
    refine ⟨hb.1, hb.2.1, by simp, fun j y hj => ?_⟩
    simp only [List.mem_singleton, Prod.mk.injEq] at hj
    obtain ⟨rfl, rfl⟩ := hj
    exact hb.2.2.2 _ _ (getV_mem ha)

theorem last_own {m : List (Int × Told)} {me : Int} : match (ownL m me).getLast? with
    | some p => at2 m p.1 me = some p.2 | none => ∀ w, at2 m w me = none := by
  cases hg : (ownL m me).getLast? with
  | some p => exact mem_ownL.1 (List.mem_of_getLast? hg)
  | none =>
    intro w
    cases ha : at2 m w me with
    | none => rfl
    | some x =>
      have := mem_ownL.2 ha
      rw [List.getLast?_eq_none_iff.1 hg] at this
      cases this
theorem strict_last {α : Type} : ∀ {L : List (Int × α)} {p q : Int × α}, L.Pairwise (fun a b => a.1 < b.1) → L.getLast? = some p → q ∈ L → q.1 ≤ p.1 := by
  intro L
  induction L with
  | nil => intro p q _ h; cases h
  | cons a L ih =>
    intro p q hL hp hq
    have hL' := List.pairwise_cons.1 hL
    cases L with
    | nil =>
      simp only [List.getLast?_singleton, Option.some.injEq] at hp
      subst hp
      simp only [List.mem_singleton] at hq
      subst hq
      exact Int.le_refl _
    | cons b L =>
      rw [List.getLast?_cons_cons] at hp
      rcases List.mem_cons.1 hq with rfl | hq
      · exact Int.le_of_lt (hL'.1 p (List.mem_of_getLast? hp))
      · exact ih hL'.2 hp hq

theorem anew_ok (ok : s.Ok) : s.anew.Ok := by
  have hf := fresh_ok (n := s.n) (me := s.me) (slot := s.slot) ok.n ok.me ok.slot
  have hl := last_own (m := s.commits) (me := s.me)
  have hb : ∀ w x, at2 s.commits w s.me = some x → 0 ≤ w ∧ w ≤ 1048576 ∧ x.length ≤ 4096 := fun w x h => by
    unfold at2 at h
    cases hg : getV s.commits w with
    | none => rw [hg] at h; cases h
    | some tb => rw [hg] at h; have hc := ok.comms.2 w tb (getV_mem hg); exact ⟨hc.1, hc.2.1, (hc.2.2.2 _ _ (getV_mem h)).2.2⟩
  refine { hf with view := ok.view, preps := viewsOk_onlyOwn ok.preps, comms := viewsOk_onlyOwn ok.comms, lock := ?_, locked := ?_, value := ?_ }
  · unfold St.anew
    simp only
    cases hg : (ownL s.commits s.me).getLast? with
    | none => simp
    | some p => rw [hg] at hl; have := hb _ _ hl; simp only; omega
  · unfold St.anew
    simp only
    cases hg : (ownL s.commits s.me).getLast? with
    | none => simp
    | some p => rw [hg] at hl; have := hb _ _ hl; simp only; omega
  · unfold St.anew
    simp only
    split
    · exact ok.value
    · simp

theorem came_anew (ok : s.Ok) (ho : Own s) : Came s s.anew ∧ Own s.anew := by
  have hP : ∀ w, at2 s.anew.prepares w s.me = at2 s.prepares w s.me := fun w => (at2_onlyOwn ok.preps.1 s.me w s.me).trans (if_pos rfl)
  have hC : ∀ w, at2 s.anew.commits w s.me = at2 s.commits w s.me := fun w => (at2_onlyOwn ok.comms.1 s.me w s.me).trans (if_pos rfl)
  refine ⟨⟨rfl, rfl, rfl, Int.le_refl _, fun v x h => by rw [hP]; exact h, fun v x h => by rw [hC]; exact h, fun hd => ⟨hd, ?_⟩, fun v x h => .inl (by rwa [hC] at h)⟩, ⟨fun v x h => ho.preps v x (by rw [← hP]; exact h), fun v x h => ho.comms v x (by rw [← hC]; exact h)⟩⟩
  show (if s.decided = true then s.value else []) = s.value
  rw [if_pos hd]

theorem Loc.anew {E F : Env} (h : Loc okf E s) (hE : E.Le F) (hc : Cov F s.anew) : Loc okf F s.anew := by
  have ok := h.ok
  have hP : ∀ w j, at2 s.anew.prepares w j = if j = s.me then at2 s.prepares w s.me else none := fun w j => at2_onlyOwn ok.preps.1 s.me w j
  have hC : ∀ w j, at2 s.anew.commits w j = if j = s.me then at2 s.commits w s.me else none := fun w j => at2_onlyOwn ok.comms.1 s.me w j
  have hP' : ∀ w, at2 s.anew.prepares w s.me = at2 s.prepares w s.me := fun w => (hP w s.me).trans (if_pos rfl)
  have hC' : ∀ w, at2 s.anew.commits w s.me = at2 s.commits w s.me := fun w => (hC w s.me).trans (if_pos rfl)
  have hv : s.decided = true → s.anew.value = s.value := fun hd => by
    show (if s.decided = true then s.value else []) = s.value
    rw [if_pos hd]
  have hc' : Cov F s := ⟨fun w x hx => hc.P w x (by show at2 s.anew.prepares w s.me = _; rw [hP']; exact hx), fun w x hx => hc.C w x (by show at2 s.anew.commits w s.me = _; rw [hC']; exact hx),
    fun w x hx => by have : at2 s.anew.commits w s.me = some x := hc.oneC w x hx; rwa [hC'] at this, fun hd => by have : F.D s.me s.anew.value := hc.D hd; rwa [hv hd] at this⟩
  have hu := h.up hE hc'
  have hl := last_own (m := s.commits) (me := s.me)
  have hst := ownL_strict ok.comms.1 s.me
  obtain ⟨hca, hoa⟩ := came_anew ok h.own
  have hlock : (s.anew.lock = -1 ∧ ∀ w, at2 s.commits w s.me = none) ∨ (0 ≤ s.anew.lock ∧ at2 s.commits s.anew.lock s.me = some s.anew.locked ∧ ∀ w x, at2 s.commits w s.me = some x → w ≤ s.anew.lock) := by
    show ((match (ownL s.commits s.me).getLast? with | some p => p.1 | none => -1) = -1 ∧ _) ∨ (0 ≤ (match (ownL s.commits s.me).getLast? with | some p => p.1 | none => -1) ∧ at2 s.commits (match (ownL s.commits s.me).getLast? with | some p => p.1 | none => -1) s.me = some (match (ownL s.commits s.me).getLast? with | some p => p.2 | none => []) ∧ ∀ w x, at2 s.commits w s.me = some x → w ≤ (match (ownL s.commits s.me).getLast? with | some p => p.1 | none => -1))
    cases hg : (ownL s.commits s.me).getLast? with
    | none => rw [hg] at hl; exact .inl ⟨rfl, hl⟩
    | some p =>
      rw [hg] at hl
      refine .inr ⟨?_, hl, fun w x hx => strict_last hst hg (mem_ownL.2 hx)⟩
      have hl' : at2 s.commits p.1 s.me = some p.2 := hl
      unfold at2 at hl'
      cases hgv : getV s.commits p.1 with
      | none => rw [hgv] at hl'; cases hl'
      | some tb => exact (ok.comms.2 _ _ (getV_mem hgv)).1
  refine { n := hu.n, ok := anew_ok ok, own := hoa, tabP := fun j w x hj hr hx => ?_, tabC := fun j w x hj hr hx => ?_, tabD := fun j x hr hx => ?_, selfP := hc.P, selfC := hc.C, oneC := hc.oneC, selfD := hc.D, c2p := fun w x hx => ?_, acc := fun w x hx => ?_, lockN := fun hl w => ?_, lockC := fun hl => ?_, lockM := fun w x hx => ?_, just := fun w x hx => ?_, dec := fun hd => ?_ }
  · have hj' : ¬ j = s.me := hj
    rw [hP, if_neg hj'] at hx; cases hx
  · have hj' : ¬ j = s.me := hj
    rw [hC, if_neg hj'] at hx; cases hx
  · cases hx
  · exact hu.c2p w x (by rw [← hC']; exact hx)
  · exact hu.acc w x (by rw [← hP']; exact hx)
  · show at2 s.anew.commits w s.me = none
    rw [hC']
    rcases hlock with ⟨_, h2⟩ | ⟨h1, _⟩
    · exact h2 w
    · omega
  · show at2 s.anew.commits _ s.me = _
    rw [hC']
    rcases hlock with ⟨h1, _⟩ | ⟨_, h2, _⟩
    · omega
    · exact h2
  · have hx' : at2 s.commits w s.me = some x := by rw [← hC']; exact hx
    rcases hlock with ⟨_, h2⟩ | ⟨_, _, h3⟩
    · rw [h2 w] at hx'; cases hx'
    · exact h3 w x hx'
  · exact hu.just w x (by rw [← hP']; exact hx)
  · have hd' : s.decided = true := hd
    rw [hv hd']
    exact hu.dec hd'

/-! ### what happens among peers -/

/-- One thing that happens to one of the peers. -/
inductive Ev (okf : Bytes → Bool) (wrong : List Bool) : List St → List St → Prop
  | hear {l : List St} {i j : Nat} {s t u : St} {v : Vt} : l[i]? = some s → v.from_ = (j : Int) + 1 → (wrong[j]? = some false → ∃ q, l[j]? = some q ∧ v ∈ q.says) → s.hear v = some t → Acts okf t u → Ev okf wrong l (l.set i u)
  | late {l : List St} {i : Nat} {s t u : St} : l[i]? = some s → s.late = some t → Acts okf t u → Ev okf wrong l (l.set i u)
  | wish {l : List St} {i : Nat} {s t u : St} {x : Bytes} : l[i]? = some s → s.wished x = some t → Acts okf t u → Ev okf wrong l (l.set i u)
  | anew {l : List St} {i : Nat} {s : St} : l[i]? = some s → Ev okf wrong l (l.set i s.anew)

theorem Ok.late (ok : s.Ok) (h : s.late = some t) : t.Ok := by
  unfold St.late at h
  split at h
  · cases h
  · rename_i hc
    simp only [Bool.or_eq_true, decide_eq_true_eq, not_or] at hc
    cases h
    have := ok.view
    exact { ok with view := ⟨by simp only; omega, by simp only; omega⟩ }
theorem Ok.wished {x : Bytes} (ok : s.Ok) (h : s.wished x = some t) : t.Ok := by
  unfold St.wished at h
  split at h
  · cases h
  · rename_i hc
    simp only [Bool.or_eq_true, decide_eq_true_eq, not_or] at hc
    cases h
    exact { ok with wish := by simp only; omega }
theorem Ok.hear {v : Vt} (ok : s.Ok) (h : s.hear v = some t) : t.Ok := by
  obtain ⟨_, h2, h3, h4, u, hu, rfl⟩ := hear_some h
  obtain ⟨ok2, hn, _⟩ := ok.know h4 h2 hu
  exact ok2.note h4 (by rw [hn]; exact h2)

theorem Safe.ev (h : Safe okf n slot wrong l) {l' : List St} (he : Ev okf wrong l l') : Safe okf n slot wrong l' := by
  cases he with
  | @hear i j s t u v hi hf ht hh ha =>
    have hp := h.each i s hi
    obtain ⟨hc, ho⟩ := came_hear hh hp.own
    have htold : Told' (envOf n wrong l) v := fun hr => by
      have hr' : isRight wrong ((j : Int) + 1) := by rw [← hf]; exact hr
      obtain ⟨q, hq, hv⟩ := ht (right_me.1 hr')
      exact says_told (h.loc j q hq (right_me.1 hr')) hv hr
    have h2 := h.turned hi hc (Ok.hear hp.ok hh) ho fun F hE hcov hr hL => hL.hear hh (Ok.hear hp.ok hh) htold hE hcov
    have h3 := Safe.acts ha h2 (List.getElem?_set_self (List.getElem?_eq_some_iff.1 hi).1)
    rwa [set_set] at h3
  | @late i s t u hi hh ha =>
    have hp := h.each i s hi
    obtain ⟨hc, ho⟩ := came_late hh hp.own
    have h2 := h.turned hi hc (Ok.late hp.ok hh) ho fun F hE hcov hr hL => by
      have hok := Ok.late hp.ok hh
      unfold St.late at hh
      split at hh
      · cases hh
      · cases hh
        exact { hL.up hE ⟨hcov.P, hcov.C, hcov.oneC, hcov.D⟩ with ok := hok, own := ho }
    have h3 := Safe.acts ha h2 (List.getElem?_set_self (List.getElem?_eq_some_iff.1 hi).1)
    rwa [set_set] at h3
  | @wish i s t u x hi hh ha =>
    have hp := h.each i s hi
    obtain ⟨hc, ho⟩ := came_wished hh hp.own
    have h2 := h.turned hi hc (Ok.wished hp.ok hh) ho fun F hE hcov hr hL => by
      have hok := Ok.wished hp.ok hh
      unfold St.wished at hh
      split at hh
      · cases hh
      · cases hh
        exact { hL.up hE ⟨hcov.P, hcov.C, hcov.oneC, hcov.D⟩ with ok := hok, own := ho }
    have h3 := Safe.acts ha h2 (List.getElem?_set_self (List.getElem?_eq_some_iff.1 hi).1)
    rwa [set_set] at h3
  | @anew i s hi =>
    have hp := h.each i s hi
    obtain ⟨hc, ho⟩ := came_anew hp.ok hp.own
    exact h.turned hi hc (anew_ok hp.ok) ho fun F hE hcov hr hL => hL.anew hE hcov

/-- What is decided by commits is what any prepares of later views are of. -/
theorem Safe.one (h : Safe okf n slot wrong l) {u : Int} {y : Bytes} (hC : (envOf n wrong l).QC u y) : ∀ (k : Nat) (v : Int) (x : Bytes), v = u + k → (envOf n wrong l).QP v x → x = y := by
  obtain ⟨W, hW, hw⟩ := h.W
  have hS := h.sound
  intro k
  induction k using Nat.strongRecOn with
  | _ k ih =>
    intro v x hv hP
    by_cases hk : k = 0
    · obtain rfl : v = u := by omega
      obtain ⟨p, hr, hc, _⟩ := Env.meet (E := envOf n wrong l) h.n4 W hW hw hC hC
      obtain ⟨s, hs, hx⟩ := hc
      obtain ⟨i, rfl, hi⟩ := coreOf_some hs
      have hme := (h.each i s hi).me
      have hQ := (h.loc i s hi (right_me.1 hr)).c2p v y (by rw [hme]; exact hx)
      obtain ⟨p2, hr2, ⟨s2, hs2, hx2⟩, ⟨s3, hs3, hx3⟩⟩ := Env.meet (E := envOf n wrong l) h.n4 W hW hw hP hQ
      rw [hs2] at hs3
      cases hs3
      rw [hx2] at hx3
      injection hx3
    · obtain ⟨p, hr, ⟨_, hj⟩, hc⟩ := Env.meet (E := envOf n wrong l) h.n4 W hW hw (hS.just v x hP) hC
      rcases hj u y hc (by omega) with h1 | ⟨w, h1, h2, h3⟩
      · exact h1
      · exact ih (w - u).toNat (by omega) w x (by omega) h3

theorem Safe.qc_qp (h : Safe okf n slot wrong l) {u : Int} {y : Bytes} (hC : (envOf n wrong l).QC u y) : (envOf n wrong l).QP u y ∧ okf y = true := by
  obtain ⟨W, hW, hw⟩ := h.W
  obtain ⟨p, hr, hc, _⟩ := Env.meet (E := envOf n wrong l) h.n4 W hW hw hC hC
  obtain ⟨s, hs, hx⟩ := hc
  obtain ⟨i, rfl, hi⟩ := coreOf_some hs
  have hme := (h.each i s hi).me
  have hQ := (h.loc i s hi (right_me.1 hr)).c2p u y (by rw [hme]; exact hx)
  obtain ⟨p2, hr2, ⟨s2, hs2, hx2⟩, _⟩ := Env.meet (E := envOf n wrong l) h.n4 W hW hw hQ hQ
  obtain ⟨i2, rfl, hi2⟩ := coreOf_some hs2
  have hme2 := (h.each i2 s2 hi2).me
  exact ⟨hQ, (h.loc i2 s2 hi2 (right_me.1 hr2)).acc u y (by rw [hme2]; exact hx2)⟩

theorem Safe.agree (h : Safe okf n slot wrong l) {u v : Int} {x y : Bytes} (hx : (envOf n wrong l).QC u x) (hy : (envOf n wrong l).QC v y) : x = y := by
  rcases Int.le_total u v with hle | hle
  · exact (h.one hx (v - u).toNat v y (by omega) (h.qc_qp hy).1).symm
  · exact h.one hy (u - v).toNat u x (by omega) (h.qc_qp hx).1

/-- ONE VALUE. -/
theorem Safe.values (h : Safe okf n slot wrong l) {i j : Nat} (hi : l[i]? = some s) (hj : l[j]? = some t) (ri : wrong[i]? = some false) (rj : wrong[j]? = some false) (di : s.decided = true) (dj : t.decided = true) : s.value = t.value ∧ okf s.value = true := by
  obtain ⟨u, hu⟩ := (h.loc i s hi ri).dec di
  obtain ⟨v, hv⟩ := (h.loc j t hj rj).dec dj
  exact ⟨h.agree hu hv, (h.qc_qp hu).2⟩
end
end Go.Proofs.Ytiofkiaibcmdhaa
