import Derived.Test.YtiofkiaibcmdhaaAct
namespace Go.Proofs.Ytiofkiaibcmdhaa
open Go Go.RowKit

/-- What a call leaves that may turn the core and then does all that it can. -/
def GoesPost (fa b : Nat) (fp : List Nat) (okf : Bytes → Bool) (o : Option St) (w : World) (e : Ending) (w' : World) : Prop := e = .returned (.tuple #[]) ∧
    match o with | none => w = w' | some t => ∃ u, u.Ok ∧ Acts okf t u ∧ CorePost fa b fp u w w'
def DecidedPost (s : St) (w : World) (e : Ending) (w' : World) : Prop := Ext w w' ∧
    if s.decided then ∃ a c, e = .returned (.tuple #[.slice a s.value.length c, .bool true]) ∧ BB w' a s.value else e = .returned (.tuple #[.slice none 0 0, .bool false])

section
variable {fa : Nat} {w : World} {b : Nat} {fp : List Nat} {s : St} {okf : Bytes → Bool}

set_option maxHeartbeats 400000 in
theorem CoreAt.view_of (h : CoreAt fa w b fp s) : Calls Try.prog 22 #[.pointer (some ⟨b, 0, none⟩)] w fun e w' => e = .returned (.int .i64 s.view) ∧ w = w' := by
  obtain ⟨p, F1, F2, F3, rfl, h⟩ := h
  have d4 := cell_ofBlk (i := 4) (v := .int .i64 s.view) h.blk rfl
  go_enter Try.func22, Try.ntmps22
  go_wp2
  go_ret
  exact ⟨rfl, rfl⟩

set_option maxHeartbeats 400000 in
theorem CoreAt.decided_of (h : CoreAt fa w b fp s) (ok : s.Ok) : Calls Try.prog 21 #[.pointer (some ⟨b, 0, none⟩)] w (DecidedPost s w) := by
  obtain ⟨p, F1, F2, F3, rfl, h⟩ := h
  have hl := ok.value
  have d15 := cell_ofBlk (i := 15) (v := .bool s.decided) h.blk rfl
  have d16 := cell_ofBlk (i := 16) (v := .slice p.av s.value.length p.cv) h.blk rfl
  cases hd : s.decided with
  | true =>
    rw [hd] at d15
    go_enter Try.func21, Try.ntmps21
    go_wp2_with (go_at_call 62; refine (clone_any p.av _ p.cv s.value w rfl h.value.bs (by omega)).mono ?_; rintro e w2 ⟨a', c', rfl, hb, hE⟩)
    go_ret2
    unfold DecidedPost
    rw [if_pos hd]
    exact ⟨hE, a', c', rfl, hb⟩
  | false =>
    rw [hd] at d15
    go_enter Try.func21, Try.ntmps21
    go_wp2
    go_ret2
    unfold DecidedPost
    rw [if_neg (by simp [hd])]
    exact ⟨Ext.refl _, rfl⟩

def St.late (s : St) : Option St := if s.decided || decide (1048576 ≤ s.view) then none else some { s with view := s.view + 1 }
def St.wished (s : St) (l : Bytes) : Option St := if s.wishes || decide (4096 < l.length) then none else some { s with wish := l, wishes := true }

set_option maxRecDepth 100000 in
set_option maxHeartbeats 1000000 in
theorem CoreAt.late_of (h : CoreAt fa w b fp s) (ok : s.Ok) (hA : Accepts fa okf) : Calls Try.prog 20 #[.pointer (some ⟨b, 0, none⟩)] w (GoesPost fa b fp okf s.late w) := by
  obtain ⟨p, F1, F2, F3, rfl, h⟩ := h
  have hv := ok.view
  have d4 := cell_ofBlk (i := 4) (v := .int .i64 s.view) h.blk rfl
  have d15 := cell_ofBlk (i := 15) (v := .bool s.decided) h.blk rfl
  have f4 := frozen_ofBlk (i := 4) h.blk
  cases hd : s.decided with
  | true =>
    rw [hd] at d15
    have hn : s.late = none := by simp [St.late, hd]
    rw [hn]
    go_enter Try.func20, Try.ntmps20
    go_wp2
    go_end0
    exact ⟨rfl, rfl⟩
  | false =>
    rw [hd] at d15
    rcases Int.lt_or_le s.view 1048576 with hlt | hle
    · have hn : s.late = some { s with view := s.view + 1 } := by simp [St.late, hd, hlt]
      have hTn : Turn [b] w (w.setCell ⟨b, 4, none⟩ (.int .i64 (s.view + 1))) := Turn.setCell _ ⟨b, 4, none⟩ _
      have h2 : CoreIn fa (w.setCell ⟨b, 4, none⟩ (.int .i64 (s.view + 1))) b p F1 F2 F3 { s with view := s.view + 1 } :=
        h.upd (s' := { s with view := s.view + 1 }) (p' := p) hTn (heap_setCell_blk h.blk 4 _) ⟨rfl, rfl, rfl, rfl, rfl, rfl⟩ ⟨rfl, rfl, rfl, rfl, rfl, rfl⟩ (h.wish.turn hTn (h.one foot_mem.1)) (h.locked.turn hTn (h.one foot_mem.1)) (h.value.turn hTn (h.one foot_mem.1))
      have ok2 : St.Ok { s with view := s.view + 1 } := { ok with view := ⟨by simp only; omega, by simp only; omega⟩ }
      have cA := CoreAt.act ⟨p, F1, F2, F3, rfl, h2⟩ ok2 hA
      go_enter Try.func20, Try.ntmps20
      go_wp2_with (go_at_call 61; refine cA.mono ?_; rintro e w2 ⟨rfl, t, okt, hact, hC⟩)
      go_end0
      rw [hn]
      exact ⟨rfl, t, okt, hact, CorePost.trans (hTn.mono (by simp [foot])) (fun _ hk => .inl hk) hC⟩
    · have hn : s.late = none := by simp [St.late, hle]
      rw [hn]
      go_enter Try.func20, Try.ntmps20
      go_wp2
      go_end0
      exact ⟨rfl, rfl⟩

set_option maxRecDepth 100000 in
set_option maxHeartbeats 1000000 in
theorem CoreAt.wish_of (h : CoreAt fa w b fp s) (ok : s.Ok) (hA : Accepts fa okf) (a : Option Addr) (n c : Nat) (l : Bytes) (hln : l.length = n) (hb : BS w a l) (hn : n ≤ 100000) : Calls Try.prog 19 #[.pointer (some ⟨b, 0, none⟩), .slice a n c] w (GoesPost fa b fp okf (s.wished l) w) := by
  subst hln
  obtain ⟨p, F1, F2, F3, rfl, h⟩ := h
  have d6 := cell_ofBlk (i := 6) (v := .bool s.wishes) h.blk rfl
  cases hd : s.wishes with
  | true =>
    rw [hd] at d6
    have hn : s.wished l = none := by simp [St.wished, hd]
    rw [hn]
    go_enter Try.func19, Try.ntmps19
    go_wp2
    (try simp only [Exit.inBlock, Exit.then])
    refine bodyPost_ret (results_none rfl _ _ _) rfl ?_
    exact ⟨rfl, rfl⟩
  | false =>
    rw [hd] at d6
    by_cases hlt : l.length ≤ 4096
    · have hno : s.wished l = some { s with wish := l, wishes := true } := by simp [St.wished, hd, Nat.not_lt.2 hlt]
      rw [hno]
      go_enter Try.func19, Try.ntmps19
      go_wp2_with (first
        | (go_at_call 62; refine (clone_any a _ c l w rfl hb (by omega)).mono ?_; rintro e w2 ⟨a', c', rfl, hb2, hE⟩
           have h2 := h.ext hE
           have f5 := frozen_ofBlk (i := 5) h2.blk
           have d5 := cell_ofBlk (i := 5) (v := .slice p.aw s.wish.length p.cw) h2.blk rfl
           have hq3 := heap_setCell_blk h2.blk 5 (.slice a' l.length c')
           have d6 := cell_ofBlk (i := 6) (v := .bool false) hq3 (by rw [← hd]; rfl)
           have f6 := frozen_ofBlk (i := 6) hq3
           obtain ⟨h5, hT5⟩ := h2.set2 (s' := { s with wish := l, wishes := true }) (p' := { p with aw := a', cw := c' }) (i := 5) (j := 6) (u := .slice a' l.length c') (v := .bool true) rfl ⟨rfl, rfl, rfl, rfl, rfl, rfl⟩ ⟨rfl, rfl, rfl, rfl, rfl, rfl⟩ hb2 h2.locked h2.value
           clear hq3
           have ok2 : St.Ok { s with wish := l, wishes := true } := { ok with wish := hlt }
           have cA := CoreAt.act ⟨_, F1, F2, F3, rfl, h5⟩ ok2 hA)
        | (go_at_call 61; refine cA.mono ?_; rintro e w4 ⟨rfl, t, okt, hact, hC⟩))
      go_end0
      exact ⟨rfl, t, okt, hact, CorePost.trans (hE.turn _) (fun _ hk => .inl hk) (CorePost.trans (hT5.mono (by simp [foot])) (fun _ hk => .inl hk) hC)⟩
    · have hno : s.wished l = none := by simp [St.wished, Nat.lt_of_not_le hlt]
      rw [hno]
      go_enter Try.func19, Try.ntmps19
      go_wp2
      (try simp only [Exit.inBlock, Exit.then])
      refine bodyPost_ret (results_none rfl _ _ _) rfl ?_
      exact ⟨rfl, rfl⟩
end
end Go.Proofs.Ytiofkiaibcmdhaa
