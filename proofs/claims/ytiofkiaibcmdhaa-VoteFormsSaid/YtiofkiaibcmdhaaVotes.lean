import Derived.Test.YtiofkiaibcmdhaaTake
namespace Go.Proofs.Ytiofkiaibcmdhaa
open Go Go.RowKit

def zero31 : Value := .agg #[.int .i64 0, .int .i64 0, .int .i64 0, .int .i64 0, .int .i64 0, .slice none 0 0]
theorem info31 : (Try.prog.info? 31).map (fun i => (i.zero, i.size, i.bytes)) = some (some zero31, 6, 64) := by kernel_rfl

/-- A vote, and where its value lies. -/
structure Sent where
  v : Vt
  a : Option Addr
  c : Nat
def Sent.cells (x : Sent) : List Value := (voteCells x.v x.a x.c).toList
theorem Sent.cells_length (x : Sent) : x.cells.length = 6 := rfl
theorem Sent.cells_one (x : Sent) : ∀ u ∈ x.cells, u.oneCell' = true := by
  intro u hu
  simp only [Sent.cells, voteCells, List.mem_cons, List.not_mem_nil, or_false] at hu
  rcases hu with rfl | rfl | rfl | rfl | rfl | rfl <;> rfl

theorem flat_length (l : List Sent) : (l.flatMap Sent.cells).length = l.length * 6 := by
  induction l with
  | nil => rfl
  | cons x l ih => simp only [List.flatMap_cons, List.length_append, ih, Sent.cells_length, List.length_cons]; omega
theorem flat_one (l : List Sent) : ∀ u ∈ l.flatMap Sent.cells, u.oneCell' = true := by
  intro u hu
  obtain ⟨x, _, hx⟩ := List.mem_flatMap.1 hu
  exact x.cells_one u hx
theorem flat_get {l : List Sent} {i : Nat} {x : Sent} (h : l[i]? = some x) {j : Nat} (hj : j < 6) : (l.flatMap Sent.cells)[i * 6 + j]? = x.cells[j]? := by
  induction l generalizing i with
  | nil => simp at h
  | cons y l ih =>
    cases i with
    | zero =>
      simp only [List.getElem?_cons_zero, Option.some.injEq] at h
      subst h
      rw [List.flatMap_cons, List.getElem?_append_left (by rw [Sent.cells_length]; omega)]
      simp
    | succ i =>
      simp only [List.getElem?_cons_succ] at h
      rw [List.flatMap_cons, List.getElem?_append_right (by rw [Sent.cells_length]; omega), Sent.cells_length, show (i + 1) * 6 + j - 6 = i * 6 + j by omega]
      exact ih h

/-- slices.Clone: the same bytes, in memory of the call's own. -/
theorem clone_loc (a : Option Addr) (n c : Nat) (l : List UInt8) (w : World) (hn : l.length = n) (h : BS w a l) (hlen : l.length ≤ 140737488355328) :
    Calls Try.prog 62 #[.slice a n c] w fun e w' => ∃ a' c', e = .returned (.slice a' l.length c') ∧ BB w' a' l ∧ Ext w w' ∧ ∀ p, a' = some p → w.heap.size ≤ p.block := by
  cases a with
  | none =>
    obtain rfl : l = [] := h
    refine (clone_nil n c w).mono ?_
    rintro e w' ⟨rfl, rfl⟩
    exact ⟨none, 0, rfl, rfl, Ext.refl _, fun p hp => by cases hp⟩
  | some p =>
    refine (clone_some p n c l w hn h hlen).mono ?_
    rintro e w' ⟨v, rfl, ho, hE⟩
    obtain ⟨a', c', rfl, hb, hp, _⟩ := ho.form
    exact ⟨a', c', rfl, hb, hE, hp⟩

/-- A slice of votes that a call owns, and their values. -/
structure OV (w : World) (base : Nat) (v : Value) (l : List Sent) : Prop where
  row : w.ownsRow base 31 6 v l.length (l.flatMap Sent.cells)
  vals : ∀ x ∈ l, BB w x.a x.v.value
  loc : ∀ x ∈ l, ∀ p, x.a = some p → base ≤ p.block

theorem OV.nil (w : World) (base : Nat) : OV w base (.slice none 0 0) [] := ⟨World.ownsRow_nil w base 31 6, (fun x hx => by cases hx), (fun x hx => by cases hx)⟩

theorem OV.form {w : World} {base : Nat} {v : Value} {l : List Sent} (h : OV w base v l) : ∃ a c, v = .slice a l.length c := by
  rcases h.row.2 with ⟨rfl, h0⟩ | ⟨g, cap, cur, rfl, _⟩
  · exact ⟨none, 0, by rw [h0]⟩
  · exact ⟨_, _, rfl⟩

theorem BB.grown31 {w w' : World} {base : Nat} {v : Value} {n : Nat} {xs : List Value} {a : Option Addr} {l : List UInt8} (h : BB w a l) (hr : w.ownsRow base 31 6 v n xs) (hg : w.grownBy w' v.ownBlock) : BB w' a l := by
  cases a with
  | none => exact h
  | some p =>
    obtain ⟨hs, cs, fz, h1, h2⟩ := h
    refine ⟨hs, cs, fz, (hg.block p.block (Array.getElem?_eq_some_iff.1 h1).1 fun e => ?_).trans h1, h2⟩
    rcases hr.2 with ⟨rfl, _⟩ | ⟨g, cap, cur, rfl, _, hgb, _⟩
    · cases e
    · have e2 : p.block = g := by simpa [Value.ownBlock] using e
      rw [e2, hgb] at h1
      injection h1 with h1
      injection h1 with _ h3 _
      exact absurd h3 (by decide)

theorem OV.ext {w w' : World} {base : Nat} {v : Value} {l : List Sent} (h : OV w base v l) (hE : Ext w w') : OV w' base v l := by
  refine ⟨⟨h.row.1, ?_⟩, fun x hx => (h.vals x hx).ext hE, h.loc⟩
  rcases h.row.2 with h2 | ⟨g, cap, cur, hv, hg, hh, r⟩
  · exact .inl h2
  · exact .inr ⟨g, cap, cur, hv, hg, hE.heap hh, r⟩

theorem OV.base {w : World} {base base' : Nat} {v : Value} {l : List Sent} (h : OV w base v l) (hb : base' ≤ base) : OV w base' v l := ⟨ownsRow_base_a h.row hb, h.vals, fun x hx p hp => Nat.le_trans hb (h.loc x hx p hp)⟩

theorem Ext.own {w0 w1 w2 : World} {row : Option Nat} (h : Ext w0 w1) (hg : w1.grownBy w2 row) (hr : ∀ r, row = some r → w0.heap.size ≤ r) : Ext w0 w2 := by
  cases row with
  | none => exact h.trans (ext_of_grown hg)
  | some r => exact h.grown hg (hr r rfl)

/-- An append of votes, at the operation. -/
theorem wpList_append_votes {ops : Array Oper} {rest : List Oper} {o : Oper} {a : Act} {Q : Exit → Act → World → Prop} {w : World} (hgd : o.guard = none) (s x : Operand)
    (ho : o.op = .call { callee := .builtin .append, args := #[s, x], argTypes := #[42, 42] }) (base : Nat) (v : Value) (l m : List Sent) (hs : a.eval s = v) (hown : OV w base v l) (p : Addr) (n c : Nat) (hx : a.eval x = .slice (some p) n c)
    (hn : m.length = n) (hsrc : ∀ j u, (m.flatMap Sent.cells)[j]? = some u → w.cell? (p.add j) = some u) (hb : ∀ x ∈ m, BB w x.a x.v.value) (hloc : ∀ x ∈ m, ∀ p, x.a = some p → base ≤ p.block) (hlen : l.length + m.length ≤ 10000000) (hbase : base ≤ w.heap.size)
    (h : ∀ v' w', OV w' base v' (l ++ m) → w.grownBy w' v.ownBlock → wpList Try.prog ops Q rest (a.put o.dst v') w') : wpList Try.prog ops Q (o :: rest) a w := by
  obtain ⟨i, hi, hz, hsz, hby⟩ := info_parts info31
  subst hn
  refine wpList_append_own w hgd s x 42 ho base 31 i zero31 6 64 Try.underlying42 hi hz hsz hby rfl (by decide) v l.length _ hs hown.row p m.length c (m.flatMap Sent.cells) hx (flat_length m) hsrc (flat_one m)
    (by unfold maxLen; omega) (by omega) hbase fun v' w' h1 h2 _ => h v' w' ⟨?_, fun x hx => ?_, fun x hx => (List.mem_append.1 hx).elim (hown.loc x) (hloc x)⟩ h2
  · rw [List.length_append, List.flatMap_append]; exact h1
  · rcases List.mem_append.1 hx with hx | hx
    · exact (hown.vals x hx).grown31 hown.row h2
    · exact (hb x hx).grown31 hown.row h2

theorem one_vote {w : World} {b : Nat} (x : Sent) (h : w.heap[b]? = some (.cells (voteCells x.v x.a x.c) 31)) : ∀ j u, ([x].flatMap Sent.cells)[j]? = some u → w.cell? ((⟨b, 0, none⟩ : Addr).add j) = some u := by
  intro j u hu
  simp only [List.flatMap_cons, List.flatMap_nil, List.append_nil, Sent.cells] at hu
  rw [Addr.add_lit]
  unfold World.cell?
  simp only [h]
  simpa using hu

/-- Its own votes of a kind. -/
def St.mine (s : St) (kind : Int) (m : List (Int × Told)) : List Vt := (isort (m.map (·.1))).filterMap fun view => (at2 m view s.me).map fun v => ⟨kind, s.me, s.slot, view, -1, v⟩

/-- What a call hands back that makes votes. -/
def SaysPost (vs : List Vt) (w : World) (e : Ending) (w' : World) : Prop := ∃ val l, e = .returned val ∧ OV w' w.heap.size val l ∧ l.map (·.v) = vs ∧ Ext w w'

def mineF (s : St) (kind : Int) (m : List (Int × Told)) (view : Int) : Option Vt := (at2 m view s.me).map fun v => ⟨kind, s.me, s.slot, view, -1, v⟩
theorem mine_eq (s : St) (kind : Int) (m : List (Int × Told)) : s.mine kind m = (isort (m.map (·.1))).filterMap (mineF s kind m) := rfl
theorem filterMap_snoc {α β : Type} {f : α → Option β} {l : List α} {i : Nat} {x : α} (h : l[i]? = some x) : (l.take (i + 1)).filterMap f = (l.take i).filterMap f ++ (f x).toList := by
  rw [List.take_add_one, h, List.filterMap_append]
  cases hf : f x <;> simp [hf]

section
variable {fa : Nat} {w : World} {b : Nat} {p : Ptr} {F1 F2 F3 : List Nat} {s : St} {okf : Bytes → Bool}

set_option maxRecDepth 100000 in
set_option maxHeartbeats 2000000 in
theorem CoreIn.mine_of (h : CoreIn fa w b p F1 F2 F3 s) (kind : Int) (mm : Nat) (F : List Nat) (vs : List (Int × Told)) (hV : ViewsAt w mm F vs) (hvo : ViewsOk s.n vs) :
    Calls Try.prog 59 #[.pointer (some ⟨b, 0, none⟩), .int .i64 kind, .map (some mm)] w (SaysPost (s.mine kind vs) w) := by
  obtain ⟨es, hm, hR, hF⟩ := hV
  have hl := hvo.length
  have hes : es.length ≤ 1048577 := by rw [hR.length]; omega
  have hlr : es.length ≤ 10000000 := by omega
  go_enter Try.func59, Try.ntmps59
  go_wp2_with (first
    | (go_at_call 70; refine (keys_of _ _).mono ?_; rintro e w1 ⟨rfl, rfl⟩)
    | (go_at_call 69; refine (sorted95 mm es w hm hlr).mono ?_; rintro e ws ⟨a, c, rfl, hI, hE, _⟩))
  have hEs : Ext w ws := (ext_of_grown (World.grownBy_alloc w _ none)).trans hE
  go_loopw [7, 16] (fun v7 v wr => ∃ (i : Nat) (l : List Sent), v = .int .i64 i ∧ Ext ws wr ∧ i ≤ es.length ∧ OV wr ws.heap.size v7 l ∧ l.map (·.v) = ((isort (es.map (·.1))).take i).filterMap (mineF s kind vs))
    (fun _ v _ => es.length - (match v with | .int _ n => n.toNat | _ => 0))
  case atStart => exact ⟨0, [], rfl, Ext.refl _, by omega, OV.nil _ _, by simp⟩
  case round =>
    obtain ⟨i, l, rfl, hEr, hi, hO, hlm⟩ := hrel
    have hlk : (isort (es.map (·.1))).length = es.length := by rw [(isort_perm _).length_eq]; simp
    have hEw := hEs.trans hEr
    have h2 := h.ext hEw
    have hsz : w.heap.size ≤ wr.heap.size := hEw.size
    by_cases hlt : i < es.length
    · obtain ⟨pp, rfl⟩ : ∃ p, a = some p := by
        cases a with
        | none => have h0 : isort (es.map (·.1)) = [] := hI; rw [h0] at hlk; simp at hlk; omega
        | some p => exact ⟨p, rfl⟩
      obtain ⟨pb, po, ps⟩ := pp
      obtain rfl : ps = none := hI.1
      obtain ⟨k, hk⟩ : ∃ k, (isort (es.map (·.1)))[i]? = some k := ⟨_, List.getElem?_eq_getElem (by omega)⟩
      have hcell := (hI.ext hEr).cell hk
      have hsn := filterMap_snoc (f := mineF s kind vs) hk
      have hV2 : ViewsAt wr mm F vs := by
        have : ViewsAt w mm F vs := ⟨es, hm, hR, hF⟩
        exact this.turn (hEw.turn []) (NoByte.nil w) (by simp) (fun _ _ => by simp)
      obtain ⟨r, av, nv, cv, bo, lk1, lk2, hcase⟩ := hV2.look2 k s.me
      have c1 := Ext.ofBlk (i := 1) (v := .int .i64 s.me) h2.blk rfl
      have c2 := Ext.ofBlk (i := 2) (v := .int .i64 s.slot) h2.blk rfl
      clear hk hI hlk
      go_wp2_with fail
      refine wp_region_segs (by kernel_rfl) [] [0, 1, 2, 3, 4, 5, 6, 7, 8, 9, 10, 11, 12] [] (by decide +kernel) (fun c a d u w h => by cases d <;> exact h) ?_
      simp only [pickO, pickS, nthO, wpSegs]
      repeat (go_big_quiet_step (fail))
      refine wpQuiet_nil ?_
      refine wpList_nil ?_
      clear lk1 lk2
      rcases hcase with ⟨rfl, hat⟩ | ⟨x, rfl, hat, rfl, hbx⟩
      · go_wp2_with fail
        go_roundw
        case rel =>
          refine ⟨i + 1, l, by simp, hEr.trans (Ext.drew _), by omega, hO.ext (Ext.drew _), ?_⟩
          rw [hsn, hlm]
          simp [mineF, hat]
        case measure => simp; omega
      · go_wp2_with fail
        have hxl : x.length ≤ 4096 := by
          unfold at2 at hat
          exact ((hvo.get k).2 _ _ (getV_mem hat)).2.2
        refine wp_region_segs (by kernel_rfl) [([0, 1, 2, 3, 4, 5, 6, 7, 8, 9, 10, 11], 12), ([13], 14)] [] [15, 16] (by decide +kernel) (fun c a d u w h => by cases d <;> exact h) ?_
        simp only [pickO, pickS, nthO, wpSegs]
        repeat (go_big_quiet_step (fail))
        refine wpQuiet_nil ?_
        refine live_step rfl (fun K hK => ?_)
        go_simp
        refine (clone_loc av _ cv x _ rfl ((hbx.ext (Ext.drew _)).ext (Ext.drew _)).bs (by omega)).mono ?_
        rintro e w3 ⟨a', c', rfl, hb', hE3, hloc⟩
        refine hK _ w3 w3 hE3 (Ext.refl _) ?_
        clear hK K
        repeat (go_big_quiet_step (fail))
        refine wpQuiet_nil ?_
        refine live_step rfl (fun K hK => ?_)
        go_simp
        obtain ⟨w4, hw4⟩ : ∃ w4, w3.alloc (.cells #[.int .i64 kind, .int .i64 s.me, .int .i64 s.slot, .int .i64 k, .int .i64 (-1), .slice a' x.length c'] 31) = w4 := ⟨_, rfl⟩
        have e34 : Ext w3 w4 := by rw [← hw4]; exact ext_of_grown (World.grownBy_alloc w3 _ none)
        have hblk : w4.heap[w3.heap.size]? = some (.cells (voteCells ⟨kind, s.me, s.slot, k, -1, x⟩ a' c') 31) := by rw [← hw4]; exact heap_alloc_new w3 _
        have er4 : Ext wr w4 := (((Ext.drew _).trans (Ext.drew _)).trans hE3).trans e34
        rw [hw4]
        refine hK _ w4 w4 e34 (Ext.refl _) ?_
        clear hK K hw4
        refine wpQuiet_nil ?_
        have hlen : l.length ≤ es.length := by
          have h1 := congrArg List.length hlm
          rw [List.length_map] at h1
          have h2 := List.length_filterMap_le (mineF s kind vs) ((isort (es.map (·.1))).take i)
          have h3 := List.length_take_le i (isort (es.map (·.1)))
          omega
        refine wpList_append_votes rfl (.tmp 32) (.tmp 46) rfl ws.heap.size u7 l [⟨⟨kind, s.me, s.slot, k, -1, x⟩, a', c'⟩] rfl (hO.ext er4) ⟨w3.heap.size, 0, none⟩ 1 1 rfl rfl (one_vote ⟨⟨kind, s.me, s.slot, k, -1, x⟩, a', c'⟩ hblk) (by intro y hy; simp only [List.mem_singleton] at hy; subst hy; exact hb'.ext e34) (by intro y hy q hq; simp only [List.mem_singleton] at hy; subst hy; exact Nat.le_trans hEr.size (hloc q hq)) (by simp; omega) (by have := er4.size; have := hEr.size; omega) ?_
        intro v5 w5 hO5 hg5
        obtain ⟨a5, c5, rfl⟩ := hO5.form
        rw [List.length_append, List.length_singleton] at hO5
        go_wp2_with fail
        go_roundw
        case rel =>
          refine ⟨i + 1, _, by simp, (hEr.trans er4).own hg5 (fun r hr => ((hO.ext er4).row.lt r hr).1), by omega, hO5, ?_⟩
          · rw [hsn, List.map_append, hlm]
            simp [mineF, hat]
        case measure => simp; omega
    · have hall : (isort (es.map (·.1))).take i = isort (es.map (·.1)) := List.take_of_length_le (by omega)
      rw [hall] at hlm
      go_wp2_with fail
      go_ret
      exact ⟨_, l, rfl, hO.base hEs.size, by rw [hlm, mine_eq, ← hR.keys], hEw⟩
end
end Go.Proofs.Ytiofkiaibcmdhaa
