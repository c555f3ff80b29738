import Derived.Test.YtiofkiaibcmdhaaCores
import Derived.Test.YtiofkiaibcmdhaaTalk
import Derived.Deep.MidRow
import Derived.Lib.SlBytesConst
namespace Go.Proofs.Ytiofkiaibcmdhaa
open Go Go.RowKit

/-- The values that don't begin with an exclamation mark. -/
def okNot (l : Bytes) : Bool := match l with
  | [] => true
  | x :: _ => x != 33

theorem accepts_any : Accepts 26 okAny := by
  refine ⟨enters_of Try.func26 (by kernel_rfl) rfl, fun a c l w hb => ?_⟩
  go_enter Try.func26, Try.ntmps26
  go_wp2
  go_ret
  exact ⟨rfl, Ext.refl _⟩

theorem not33 (x : UInt8) : ((x.toNat : Int) != 33) = (x != 33) := by
  rw [Bool.eq_iff_iff]
  simp only [bne_iff_ne, ne_eq]
  refine not_congr ⟨fun h => ?_, fun h => by subst h; rfl⟩
  have : x.toNat = 33 := by omega
  exact UInt8.toNat_inj.1 this

theorem accepts_not : Accepts 15 okNot := by
  refine ⟨enters_of Try.func15 (by kernel_rfl) rfl, fun a c l w hb => ?_⟩
  cases l with
  | nil =>
    go_enter Try.func15, Try.ntmps15
    go_wp2
    go_ret
    exact ⟨rfl, Ext.refl _⟩
  | cons x l =>
    cases a with
    | none => cases hb
    | some p =>
      obtain ⟨pb, po, ps⟩ := p
      obtain rfl : ps = none := hb.1
      have hc := hb.bs.cell (i := 0) (by simp)
      simp only [List.getElem_cons_zero, byteV, Nat.add_zero] at hc
      go_enter Try.func15, Try.ntmps15
      go_wp2
      go_ret
      refine ⟨?_, Ext.refl _⟩
      have h0 : (((l.length : Int) + 1) == 0) = false := by simp; omega
      rw [h0, Bool.false_or, not33]
      rfl

theorem ptrs_one (cs : List Cr) : ∀ u ∈ ptrs cs, u.oneCell' = true := by
  intro u hu
  obtain ⟨c, _, rfl⟩ := List.mem_map.1 hu
  rfl

/-- A slice of pointers to cores, at a block of its own. -/
def PtrsAt (w : World) (base : Nat) (v : Value) (cs : List Cr) : Prop := w.ownsRow base 26 1 v cs.length (ptrs cs)
theorem PtrsAt.cell {w : World} {base n c : Nat} {a : Option Addr} {cs : List Cr} (h : PtrsAt w base (.slice a n c) cs) {i : Nat} {x : Cr} (hi : cs[i]? = some x) : ∃ g, a = some ⟨g, 0, none⟩ ∧ w.cell? ⟨g, i, none⟩ = some (.pointer (some ⟨x.b, 0, none⟩)) := by
  have hlt : i < cs.length := (List.getElem?_eq_some_iff.1 hi).1
  rcases h.2 with ⟨_, h0⟩ | ⟨g, cap, cur, hv, hb, _⟩
  · omega
  · injection hv with h1 h2 h3
    subst h1
    refine ⟨g, rfl, ?_⟩
    have := World.ownsRow.cells h (g := g) rfl i (.pointer (some ⟨x.b, 0, none⟩)) (by unfold ptrs; rw [List.getElem?_map, hi]; rfl)
    simpa [Addr.add_lit] using this
theorem PtrsAt.form {w : World} {base : Nat} {v : Value} {cs : List Cr} (h : PtrsAt w base v cs) : ∃ a c, v = .slice a cs.length c := by
  rcases h.2 with ⟨rfl, h0⟩ | ⟨g, cap, cur, rfl, _⟩
  · exact ⟨none, 0, by rw [h0]⟩
  · exact ⟨_, _, rfl⟩

theorem one_ptr {w : World} {b c : Nat} {t : TypeId} {fz : Nat × Nat} (h : w.heap[b]? = some (.cells #[.pointer (some ⟨c, 0, none⟩)] t fz)) (x : Cr) (hx : x.b = c) : ∀ j u, (ptrs [x])[j]? = some u → w.cell? ((⟨b, 0, none⟩ : Addr).add j) = some u := by
  intro j u hu
  rw [Addr.add_lit]
  unfold World.cell?
  simp only [h]
  subst hx
  simpa [ptrs] using hu

/-- An append of a pointer to a core. -/
theorem wpList_append_ptr {ops : Array Oper} {rest : List Oper} {o : Oper} {a : Act} {Q : Exit → Act → World → Prop} {w : World} (hgd : o.guard = none) (s x : Operand)
    (ho : o.op = .call { callee := .builtin .append, args := #[s, x], argTypes := #[61, 61] }) (base : Nat) (v : Value) (cs : List Cr) (hs : a.eval s = v) (hown : PtrsAt w base v cs) (p : Addr) (k : Nat) (hx : a.eval x = .slice (some p) 1 k) (c : Cr)
    (hsrc : ∀ j u, (ptrs [c])[j]? = some u → w.cell? (p.add j) = some u) (hlen : cs.length ≤ 100000) (hbase : base ≤ w.heap.size)
    (h : ∀ v' w', PtrsAt w' base v' (cs ++ [c]) → w.grownBy w' v.ownBlock → wpList Try.prog ops Q rest (a.put o.dst v') w') : wpList Try.prog ops Q (o :: rest) a w := by
  obtain ⟨i, hi, hz, hsz, hby⟩ := info_parts info26
  refine wpList_append_own w hgd s x 61 ho base 26 i (.pointer none) 1 8 Try.underlying61 hi hz hsz hby rfl (by decide) v cs.length _ hs hown p 1 k (ptrs [c]) hx rfl hsrc (ptrs_one _)
    (by unfold maxLen; omega) (by omega) hbase fun v' w' h1 h2 _ => h v' w' ?_ h2
  unfold PtrsAt
  rw [List.length_append]
  unfold ptrs
  rw [List.map_append]
  exact h1

theorem Team.grown {fa N : Nat} {w w' : World} {cs : List Cr} {v : Value} {base n : Nat} {xs : List Value} {e : TypeId} {size : Nat} (h : Team fa N w cs) (hr : w.ownsRow base e size v n xs) (he : e ≠ 110) (hee : e ≠ 5) (hg : w.grownBy w' v.ownBlock) : Team fa N w' cs := by
  rcases hr.2 with ⟨rfl, _⟩ | ⟨g, cap, cur, rfl, hb, hh, _⟩
  · exact h.ext (ext_of_grown hg)
  · have hT : Turn [g] w w' := ⟨hg.os, hg.tape, hg.output, hg.size, fun k hk o ho => by
      refine (hg.block k (Array.getElem?_eq_some_iff.1 ho).1 fun e => hk ?_).trans ho
      have : g = k := by simpa [Value.ownBlock] using e.symm
      simp [this]⟩
    have hnb : NoByte w [g] := fun k hk cs fz hc => by
      simp only [List.mem_singleton] at hk
      subst hk
      rw [hh] at hc
      injection hc with hc
      injection hc with _ h2 _
      exact hee h2
    refine ⟨fun i c hc => ⟨(h.each i c hc).1.turn hT hnb fun k hk hk2 => ?_, (h.each i c hc).2⟩, h.apart, h.low⟩
    simp only [List.mem_singleton] at hk2
    subst hk2
    exact he ((h.each i c hc).1.kinds k hk _ _ _ hh)

theorem states_four {cs : List Cr} {i : Nat} (hi : i < 4) (hs : cs.map (·.s) = fourPeers.take i) (b : Nat) (fp : List Nat) : (cs ++ [Cr.mk b fp (St.fresh 4 ((i : Int) + 1) 0)]).map (·.s) = fourPeers.take (i + 1) := by
  rw [List.map_append, hs]
  rcases (by omega : i = 0 ∨ i = 1 ∨ i = 2 ∨ i = 3) with rfl | rfl | rfl | rfl <;> rfl

/-- Cores in a slice of pointers of the call's own; nothing older has turned. -/
structure Held (fa N : Nat) (w : World) (v : Value) (wr : World) (cs : List Cr) : Prop where
  team : Team fa N wr cs
  ptr : PtrsAt wr N v cs
  ext : Ext w wr
  base : w.heap.size = N

section
variable {fa N : Nat} {w wr w' : World} {v : Value} {cs : List Cr} {okf : Bytes → Bool}

theorem Held.le (h : Held fa N w v wr cs) : N ≤ wr.heap.size := by have := h.ext.size; have := h.base; omega
theorem Held.later (h : Held fa N w v wr cs) (hE : Ext wr w') : Held fa N w v w' cs := ⟨h.team.ext hE, rowE h.ptr hE, h.ext.trans hE, h.base⟩
theorem Held.post (h : Held fa N w v wr cs) {i : Nat} {c : Cr} (hc : cs[i]? = some c) {u : St} (ok : u.Ok) (hP : CorePost fa c.b c.fp u wr w') :
    ∃ fp', Held fa N w v w' (cs.set i ⟨c.b, fp', u⟩) ∧ Turn c.fp wr w' ∧ Kinds wr c.fp := by
  obtain ⟨fp', h1, h2, h3⟩ := h.team.post hc ok hP h.le
  refine ⟨fp', ⟨h1, ?_, h.ext.turned h2 (fun k hk => by have := h.team.low i c hc k hk; have := h.base; omega), h.base⟩, h2, h3⟩
  have := rowK h.ptr (by decide) h2 h3
  unfold PtrsAt
  rw [List.length_set, ptrs_set hc]
  exact this

/-- What a call leaves that may turn a core. -/
def HeedPost (fa : Nat) (okf : Bytes → Bool) (b : Nat) (fp : List Nat) (s : St) (o : Option St) (w w' : World) : Prop := ∃ u, u.Ok ∧ Heeds okf o s u ∧ CorePost fa b fp u w w'
theorem GoesPost.heed {b : Nat} {fp : List Nat} {s : St} {o : Option St} {e : Ending} (hC : CoreAt fa w b fp s) (ok : s.Ok) (h : GoesPost fa b fp okf o w e w') : e = .returned (.tuple #[]) ∧ HeedPost fa okf b fp s o w w' := by
  obtain ⟨h1, h2⟩ := h
  refine ⟨h1, ?_⟩
  cases o with
  | none => exact ⟨s, ok, rfl, CorePost.ext hC (by have h2 : w = w' := h2; rw [← h2]; exact Ext.refl _)⟩
  | some t => exact h2
theorem TakePost.heed {b : Nat} {fp : List Nat} {s : St} {o : Option St} {e : Ending} (hC : CoreAt fa w b fp s) (ok : s.Ok) (h : TakePost fa b fp okf o w e w') : e = .returned (.bool o.isSome) ∧ HeedPost fa okf b fp s o w w' := by
  cases o with
  | none => obtain ⟨h1, h2⟩ := h; exact ⟨h1, s, ok, rfl, CorePost.ext hC h2⟩
  | some t => obtain ⟨h1, h2⟩ := h; exact ⟨h1, h2⟩
end

theorem says_fits {s : St} (ok : s.Ok) {v : Vt} (h : v ∈ s.says) : v.fits ∧ v.value.length ≤ 4096 := by
  have hvw := ok.view
  have hme := ok.me
  have hn := ok.n
  have hsl := ok.slot
  have hva := ok.value
  have hmine : ∀ k m, (k = 2 ∨ k = 3) → ViewsOk s.n m → v ∈ s.mine k m → v.fits ∧ v.value.length ≤ 4096 := by
    intro k m hk hm hv
    have h1 := mine_value hm v hv
    rw [mine_own] at hv
    obtain ⟨⟨view, x⟩, _, rfl⟩ := List.mem_map.1 hv
    simp only at h1
    unfold Vt.fits
    simp only
    omega
  unfold St.says at h
  rcases List.mem_cons.1 h with h | h
  · split at h <;> (subst h; unfold Vt.fits; simp only [List.length_nil]; omega)
  · rcases List.mem_append.1 h with h | h
    · split at h
      · rename_i q hq
        have hb := ok.props.2 _ q (getV_mem hq)
        split at h
        · simp only [List.mem_singleton] at h
          subst h
          unfold Vt.fits
          simp only
          omega
        · cases h
      · cases h
    · rcases List.mem_append.1 h with h | h
      · exact hmine 2 _ (.inl rfl) ok.preps h
      · exact hmine 3 _ (.inr rfl) ok.comms h

theorem says_length {s : St} (ok : s.Ok) : s.says.length ≤ 2097160 := by
  have h1 := ok.preps.length
  have h2 := ok.comms.length
  have h3 := mine_length s 2 s.prepares
  have h4 := mine_length s 3 s.commits
  unfold St.says
  simp only [List.length_cons, List.length_append]
  split
  · split <;> simp <;> omega
  · simp; omega

set_option maxRecDepth 100000 in
set_option maxHeartbeats 4000000 in
theorem lives_of (w : World) : Calls Try.prog 12 #[] w fun e w' => e = .returned (.bool true) ∧ Ext w w' := by
  obtain ⟨N, hN⟩ : ∃ N, w.heap.size = N := ⟨_, rfl⟩
  have kc := fun (w : World) (C : Array Value) (n c : Nat) => Lib.run_convert_bytes_const (P := Try.prog) w 29 5 C n c Try.underlying29 Try.underlying5
  go_enter Try.func12, Try.ntmps12
  go_wp2_with fail
  go_loopw [1, 12] (fun v1 v12 wr => ∃ (i : Nat) (cs : List Cr), v12 = .int .i64 i ∧ i ≤ 4 ∧ PtrsAt wr N v1 cs ∧ Team 26 N wr cs ∧ cs.map (·.s) = fourPeers.take i ∧ Ext w wr)
    (fun _ v _ => 4 - (intOf v).toNat)
  case atStart => exact ⟨0, [], rfl, by omega, World.ownsRow_nil w N 26 1, Team.nil, rfl, Ext.refl _⟩
  case round =>
    obtain ⟨i, cs, rfl, hi, hP, hT, hs, hE⟩ := hrel
    have hlen : cs.length = i := by
      have := congrArg List.length hs
      simp only [List.length_map, List.length_take, fourPeers, List.length_cons, List.length_nil] at this
      omega
    by_cases hlt : i < 4
    · go_wp2_with (first
        | (go_at_call 14; refine (new_of 26 4 (i + 1) 0 wr (by omega) (by omega) (by omega)).mono ?_; rintro e w1 ⟨b, fp, rfl, hC, hE1, hfp⟩
           obtain ⟨w2, hw2⟩ : ∃ w2, w1.alloc (.cells #[.pointer (some ⟨b, 0, none⟩)] 26) = w2 := ⟨_, rfl⟩
           obtain ⟨n1, hn1⟩ : ∃ n1, w1.heap.size = n1 := ⟨_, rfl⟩
           have e2 : Ext w1 w2 := by rw [← hw2]; exact ext_of_grown (World.grownBy_alloc w1 _ none)
           have x2 : w2.heap[n1]? = some (.cells #[.pointer (some ⟨b, 0, none⟩)] 26) := by rw [← hw2, ← hn1]; exact heap_alloc_new w1 _
           have hT1 := hT.push hE1 (c := ⟨b, fp, St.fresh 4 ((i : Int) + 1) 0⟩) hC (fresh_ok (by omega) (by omega) (by omega)) (by have := hE.size; omega) hfp
           have hP2 : PtrsAt w2 N u1 cs := rowE (rowE hP hE1) e2
           have hN2 : N ≤ w2.heap.size := by have := (hE.trans (hE1.trans e2)).size; omega)
        | (at_builtin; refine wpList_append_ptr rfl (.tmp 20) (.tmp 22) rfl N u1 cs rfl hP2 ⟨n1, 0, none⟩ 1 rfl (Cr.mk b fp (St.fresh 4 ((i : Int) + 1) 0)) (one_ptr x2 _ rfl) (by omega) hN2 ?_; intro v3 w3 hP3 hg3))
      go_roundw
      case rel =>
        refine ⟨i + 1, _, by simp, by omega, hP3, (hT1.ext e2).grown hP2 (by decide) (by decide) hg3, states_four hlt hs b fp, ?_⟩
        exact (hE.trans (hE1.trans e2)).own hg3 fun r hr => by have := (hP2.lt r hr).1; omega
      case measure => simp only [intOf]; omega
    · obtain rfl : i = 4 := by omega
      clear hlt hi
      have hH : Held 26 N w u1 wr cs := ⟨hT, hP, hE, hN⟩
      obtain ⟨a, c, rfl⟩ := hP.form
      clear hT hP hE
      rw [hlen] at hH ⊢
      obtain ⟨c0, hc0⟩ : ∃ c0, cs[0]? = some c0 := ⟨_, List.getElem?_eq_getElem (by omega)⟩
      obtain ⟨g, rfl, hcell0⟩ := hH.ptr.cell hc0
      obtain ⟨hc0s, hrest⟩ : c0.s = St.fresh 4 1 0 ∧ ∀ u, (cs.map (·.s)).set 0 u = [u, St.fresh 4 2 0, St.fresh 4 3 0, St.fresh 4 4 0] := by
        refine ⟨?_, fun u => by rw [hs]; rfl⟩
        have := congrArg (·[0]?) hs
        simp only [List.getElem?_map, hc0] at this
        injection this
      go_wp2_with (first
        | (go_at_call 19
           obtain ⟨n1, hn1⟩ : ∃ n1, wr.heap.size = n1 := ⟨_, rfl⟩
           obtain ⟨w1, hw1⟩ : ∃ w1, wr.alloc (.cells #[.int .u8 119] 5 (1, 2)) = w1 := ⟨_, rfl⟩
           have e1 : Ext wr w1 := by rw [← hw1]; exact ext_of_grown (World.grownBy_alloc wr _ none)
           have x1 : BS w1 (some ⟨n1, 0, none⟩) [119] := by
             rw [← hw1, ← hn1]
             exact bs_at (heap_alloc_new wr _) rfl
           have hH1 := hH.later e1
           have hA0 := hH1.team.each 0 c0 hc0
           rw [hw1, hn1]
           refine (hA0.1.wish_of hA0.2 accepts_any (some ⟨n1, 0, none⟩) 1 1 [119] rfl x1 (by omega)).mono ?_
           rintro e w2 hpost
           obtain ⟨rfl, u, oku, hheed, hC⟩ := hpost.heed hA0.1 hA0.2
           clear hw1 hn1 hcell0))
      obtain ⟨fp0, hH2, _, _⟩ := hH1.post hc0 oku hC
      obtain ⟨cs0, hcs0⟩ : ∃ cs0, cs.set 0 (Cr.mk c0.b fp0 u) = cs0 := ⟨_, rfl⟩
      have hl0 : cs0.map (·.s) = [u, St.fresh 4 2 0, St.fresh 4 3 0, St.fresh 4 4 0] := by rw [← hcs0, states_set]; exact hrest u
      rw [hcs0] at hH2
      rw [hc0s] at hheed
      clear hcs0 hrest hc0s hC hH1 hA0 x1 e1 hH hs hlen hc0 hpost
      obtain ⟨l0, hl0'⟩ : ∃ l0, cs0.map (·.s) = l0 := ⟨_, rfl⟩
      have hend : ∀ l, Rounds okAny 4 l0 l → ∃ t, l[3]? = some t ∧ t.decided = true ∧ t.value = [119] := fun l h => four_live hheed (by rw [← hl0, hl0']; exact h)
      have hlen0 : l0.length = 4 := by rw [← hl0', hl0]; rfl
      clear hl0 hheed kc
      go_loopw [31] (fun v31 wr => ∃ (r : Nat) (cs1 : List Cr), v31 = .int .i64 r ∧ r ≤ 4 ∧ Held 26 N w (.slice (some ⟨g, 0, none⟩) 4 c) wr cs1 ∧ Rounds okAny r l0 (cs1.map (·.s)) ∧ cs1.length = 4)
        (fun v _ => 4 - (intOf v).toNat)
      case atStart => exact ⟨0, cs0, rfl, by omega, hH2, by rw [hl0']; exact .zero, by have := congrArg List.length hl0'; rw [List.length_map] at this; omega⟩
      case round =>
        obtain ⟨r, cs1, rfl, hr, hH, hR, hlen⟩ := hrel
        clear hH2 hl0'
        by_cases hlt : r < 4
        · go_wp2_with fail
          obtain ⟨l1, hl1⟩ : ∃ l1, cs1.map (·.s) = l1 := ⟨_, rfl⟩
          rw [hl1] at hR
          have hl1n : l1.length = 4 := by rw [← hl1, List.length_map]; exact hlen
          have hltH : Hid (r < 4) := hlt
          rw [show decide ((r : Int) < 4) = true from decide_eq_true (by omega)]
          clear hlt
          go_loopw [35] (fun v35 wr => ∃ (i : Nat) (cs2 : List Cr), v35 = .int .i64 i ∧ i ≤ 4 ∧ Held 26 N w (.slice (some ⟨g, 0, none⟩) 4 c) wr cs2 ∧ TalkTo okAny i l1 (cs2.map (·.s)) ∧ cs2.length = 4)
            (fun v _ => 4 - (intOf v).toNat)
          case atStart => exact ⟨0, cs1, rfl, by omega, hH, by rw [hl1]; exact .zero, hlen⟩
          case round =>
            obtain ⟨i, cs2, rfl, hi, hH2, hTk, hlen2⟩ := hrel
            clear hH hl1
            by_cases hli : i < 4
            · obtain ⟨ca, hca⟩ : ∃ ca, cs2[i]? = some ca := ⟨_, List.getElem?_eq_getElem (by omega)⟩
              obtain ⟨g', hg', hcella⟩ := hH2.ptr.cell hca
              obtain rfl : g = g' := by injection hg' with hg'; injection hg'
              have hA := hH2.team.each i ca hca
              have hsn := says_length hA.2
              have hsf : ∀ v ∈ ca.s.says, v.fits ∧ v.value.length ≤ 4096 := fun v hv => says_fits hA.2 hv
              have hcas : (cs2.map (·.s))[i]? = some ca.s := by rw [List.getElem?_map, hca]; rfl
              go_wp2_with (go_at_call 23; refine (hA.1.says_of hA.2).mono ?_; rintro e w3 ⟨val, L, rfl, hL, hLs, hE3⟩; obtain ⟨aL, kL, rfl⟩ := hL.form)
              have hH3 := hH2.later hE3
              obtain ⟨l2, hl2⟩ : ∃ l2, cs2.map (·.s) = l2 := ⟨_, rfl⟩
              obtain ⟨sv, hsv⟩ : ∃ sv, ca.s.says = sv := ⟨_, rfl⟩
              obtain ⟨sa, hsa⟩ : ∃ sa, ca.s = sa := ⟨_, rfl⟩
              rw [hl2] at hTk hcas
              rw [hsv] at hLs hsf hsn
              have hLn : L.length ≤ 2097160 := by have := congrArg List.length hLs; rw [List.length_map] at this; omega
              clear hsn
              rw [hsa] at hcas hsv
              clear hcella hA hsa hg' hH2 hca hE3
              obtain ⟨B3, hB3⟩ : ∃ B3, wr.heap.size = B3 := ⟨_, rfl⟩
              rw [hB3] at hL
              clear hB3
              have hliH : Hid (i < 4) := hli
              clear hli
              go_loopw [42] (fun v42 wr => ∃ (k : Nat) (cs3 : List Cr), v42 = .int .i64 k ∧ k ≤ L.length ∧ Held 26 N w (.slice (some ⟨g, 0, none⟩) 4 c) wr cs3 ∧ TellAll okAny (sv.take k) l2 (cs3.map (·.s)) ∧ cs3.length = 4 ∧ OV wr B3 (.slice aL L.length kL) L)
                (fun v _ => L.length - (intOf v).toNat)
              case atStart => exact ⟨0, cs2, rfl, by omega, hH3, by rw [hl2]; exact .nil, hlen2, hL⟩
              case round =>
                obtain ⟨k, cs3, rfl, hk, hH4, hTA, hlen3, hL4⟩ := hrel
                clear hH3 hL hl2
                by_cases hlk : k < L.length
                · obtain ⟨x, hx⟩ : ∃ x, L[k]? = some x := ⟨_, List.getElem?_eq_getElem hlk⟩
                  obtain ⟨gL, rfl, hgB, hrg⟩ := hL4.at hx
                  have hxv : sv[k]? = some x.v := by rw [← hLs, List.getElem?_map, hx]; rfl
                  have hxf := hsf _ (List.mem_of_getElem? hxv)
                  obtain ⟨⟨vk, vf, vs, vv, vd, vl⟩, va, vc⟩ := x
                  have hrg2 : wr.rangeAt gL (k * 6) [.int .i64 vk, .int .i64 vf, .int .i64 vs, .int .i64 vv, .int .i64 vd, .slice va vl.length vc] := hrg
                  clear hrg
                  go_wp2_with (refine wpList_load_mid rfl 31 (.tmp 44) rfl gL (k * 6) rfl _ _ hrg2 Try.underlying31 rfl (by kernel_rfl) ?_)
                  obtain ⟨n7, hn7⟩ : ∃ n7, wr.heap.size = n7 := ⟨_, rfl⟩
                  obtain ⟨w5, hw5⟩ : ∃ w5, wr.alloc (.cells #[.int .i64 vk, .int .i64 vf, .int .i64 vs, .int .i64 vv, .int .i64 vd, .slice va vl.length vc] 31) = w5 := ⟨_, rfl⟩
                  have e5 : Ext wr w5 := by rw [← hw5]; exact ext_of_grown (World.grownBy_alloc wr _ none)
                  have x5 : w5.heap[n7]? = some (.cells (voteCells ⟨vk, vf, vs, vv, vd, vl⟩ va vc) 31) := by rw [← hw5, ← hn7]; exact heap_alloc_new wr _
                  have hH5 := hH4.later e5
                  have hL5 := hL4.ext e5
                  rw [hw5, hn7]
                  obtain ⟨l3, hl3⟩ : ∃ l3, cs3.map (·.s) = l3 := ⟨_, rfl⟩
                  rw [hl3] at hTA
                  have hl3n : l3.length = 4 := by rw [← hl3, List.length_map]; exact hlen3
                  clear hH4 hL4 hn7 hw5 e5 hrg2
                  have hlkH : Hid (k < L.length) := hlk
                  clear hlk
                  go_loopw [48] (fun v48 wr => ∃ (j : Nat) (cs4 : List Cr), v48 = .int .i64 j ∧ j ≤ 4 ∧ Held 26 N w (.slice (some ⟨g, 0, none⟩) 4 c) wr cs4 ∧ TellTo okAny ⟨vk, vf, vs, vv, vd, vl⟩ j l3 (cs4.map (·.s)) ∧ cs4.length = 4 ∧ OV wr B3 (.slice (some ⟨gL, 0, none⟩) L.length kL) L ∧
                      wr.heap[n7]? = some (.cells (voteCells ⟨vk, vf, vs, vv, vd, vl⟩ va vc) 31))
                    (fun v _ => 4 - (intOf v).toNat)
                  case atStart => exact ⟨0, cs3, rfl, by omega, hH5, by rw [hl3]; exact .zero, hlen3, hL5, x5⟩
                  case round =>
                    obtain ⟨j, cs4, rfl, hj, hH6, hTT, hlen4, hL6, x6⟩ := hrel
                    clear hH5 hL5 x5 hl3
                    by_cases hlj : j < 4
                    · obtain ⟨cb, hcb⟩ : ∃ cb, cs4[j]? = some cb := ⟨_, List.getElem?_eq_getElem (by omega)⟩
                      obtain ⟨g', hg', hcellb⟩ := hH6.ptr.cell hcb
                      obtain rfl : g = g' := by injection hg' with hg'; injection hg'
                      have hB := hH6.team.each j cb hcb
                      have hbv := hL6.vals _ (List.mem_of_getElem? hx)
                      have hcbs : (cs4.map (·.s))[j]? = some cb.s := by rw [List.getElem?_map, hcb]; rfl
                      have d0 := cell_ofBlk (i := 0) (v := .int .i64 vk) x6 rfl
                      have d1 := cell_ofBlk (i := 1) (v := .int .i64 vf) x6 rfl
                      have d2 := cell_ofBlk (i := 2) (v := .int .i64 vs) x6 rfl
                      have d3 := cell_ofBlk (i := 3) (v := .int .i64 vv) x6 rfl
                      have d4 := cell_ofBlk (i := 4) (v := .int .i64 vd) x6 rfl
                      have d5 := cell_ofBlk (i := 5) (v := .slice va vl.length vc) x6 rfl
                      go_wp2_with (go_at_call 18; refine (hB.1.take_of hB.2 accepts_any ⟨vk, vf, vs, vv, vd, vl⟩ hxf.1 va vc hbv.bs).mono ?_; rintro e w7 hpost; obtain ⟨rfl, u, oku, hheed, hC⟩ := hpost.heed hB.1 hB.2; clear hpost)
                      go_roundw
                      case rel =>
                        obtain ⟨fp', hH7, hT7, hK7⟩ := hH6.post hcb oku hC
                        refine ⟨j + 1, _, by simp, by omega, hH7, ?_, by rw [List.length_set]; exact hlen4, hL6.turnK hT7 hK7, hT7.cells hK7 x6 (by decide)⟩
                        rw [states_set]
                        exact hTT.next hcbs hheed
                      case measure => simp only [intOf]; omega
                    · obtain rfl : j = 4 := by omega
                      go_wp2_with fail
                      have hlk := hlkH.out
                      go_roundw
                      case rel =>
                        refine ⟨k + 1, cs4, by simp, by omega, hH6, ?_, hlen4, hL6⟩
                        rw [List.take_add_one, hxv]
                        refine .snoc hTA ?_
                        rw [hl3n]
                        exact hTT
                      case measure => simp only [intOf]; omega
                · go_wp2_with fail
                  have hli := hliH.out
                  go_roundw
                  case rel =>
                    have hkl : k = sv.length := by rw [← hLs, List.length_map]; omega
                    refine ⟨i + 1, cs3, by simp, by omega, hH4, ?_, hlen3⟩
                    rw [hkl, List.take_length] at hTA
                    refine .succ hTk hcas ?_
                    rw [hsv]
                    exact hTA
                  case measure => simp only [intOf]; omega
            · obtain rfl : i = 4 := by omega
              go_wp2_with fail
              have hlt := hltH.out
              go_roundw
              case rel =>
                refine ⟨r + 1, cs2, by simp, by omega, hH2, ?_, hlen2⟩
                refine .succ hR ?_
                rw [hl1n]
                exact hTk
              case measure => simp only [intOf]; omega
        · obtain rfl : r = 4 := by omega
          obtain ⟨cd, hcd⟩ : ∃ cd, cs1[3]? = some cd := ⟨_, List.getElem?_eq_getElem (by omega)⟩
          obtain ⟨g', hg', hcelld⟩ := hH.ptr.cell hcd
          obtain rfl : g = g' := by injection hg' with hg'; injection hg'
          obtain ⟨t, ht, htd, htv⟩ := hend _ hR
          have hcds : cd.s = t := by rw [List.getElem?_map, hcd] at ht; injection ht
          have hD := hH.team.each 3 cd hcd
          rw [hcds] at hD
          clear hend hlen0 hR hlen
          go_wp2_with (go_at_call 21; refine (hD.1.decided_of hD.2).mono ?_; rintro e w9 ⟨hE9, hpost⟩; rw [htd, if_pos rfl, htv] at hpost; obtain ⟨a9, c9, rfl, hb9⟩ := hpost; have hstr : (convert 29 9 (.slice a9 1 c9)).run Try.prog w9 = .ok (.string ⟨#[119]⟩) w9 := run_string_of_bytes (P := Try.prog) c9 Try.underlying29 Try.underlying5 Try.underlying9 hb9.bs)
          go_ret
          exact ⟨rfl, hH.ext.trans hE9⟩
end Go.Proofs.Ytiofkiaibcmdhaa
