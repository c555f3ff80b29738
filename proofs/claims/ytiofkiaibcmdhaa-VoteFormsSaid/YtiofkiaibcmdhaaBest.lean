import Derived.Test.YtiofkiaibcmdhaaBack
namespace Go.Proofs.Ytiofkiaibcmdhaa
open Go Go.RowKit Go.Shelf Go.Proofs

attribute [local go_sem] Oper.semAt_some

theorem backF {n : Nat} (hn : 1 ≤ n) (Bn : Nat) (a : Option Addr) (c : Nat) (xs : List Int) (w : World) (hBl : Bn < w.heap.size) (hBn : w.cell? ⟨Bn, 0, none⟩ = some (.slice a xs.length c)) (hI : IS w a xs) (hlen : xs.length ≤ 10000000) :
    SeqStopsK Fence.wide n Try.prog 138 #[.pointer (some ⟨Bn, 0, none⟩)] (fun x : Int × Int => #[.int .i64 x.1, .int .i64 x.2]) (Below w.heap.size) (fun ys => ys = rev xs) (fun pre => pre <+: rev xs) xs.length w := by
  intro l J Jx W hW hJ hJx hY h0
  refine back1_in n hn l Bn w.heap.size a c xs J Jx hY W ((hW.cell (p := ⟨Bn, 0, none⟩) hBl).trans hBn) hBl (hI.ext (ext_of_below hW)) ?_ h0 hlen
  rintro p rfl
  obtain ⟨_, cs, e, fz, hc, _⟩ := hI
  exact (Array.getElem?_eq_some_iff.1 hc).1

set_option maxHeartbeats 400000 in
theorem backward_of (a : Option Addr) (k c : Nat) (w : World) : Calls Try.prog 125 #[.slice a k c] w fun e w' => e = .returned (.func (.func 138) #[] #[.pointer (some ⟨w.heap.size, 0, none⟩)]) ∧ w' = w.alloc (.cells #[.slice a k c] 51) := by
  go_enter Try.func125, Try.ntmps125
  go_wp2
  go_ret
  exact ⟨rfl, rfl⟩

theorem rev_snd (xs : List Int) : (rev xs).map (·.2) = xs.reverse := by
  unfold rev
  rw [List.map_map, List.map_reverse]
  congr 1
  apply List.ext_getElem?
  intro i
  simp only [List.getElem?_map]
  by_cases hi : i < xs.length
  · rw [List.getElem?_range hi]
    simp [List.getD, hi]
  · rw [List.getElem?_eq_none (by simpa using hi), List.getElem?_eq_none (by simpa using hi)]
    rfl

theorem BB.kept {W W' : World} {row : Option Nat} {a : Option Addr} {l : List UInt8} (h : BB W a l) (hg : W.grownBy W' row) (hr : ∀ r, row = some r → ∃ o : Obj, W.heap[r]? = some o ∧ o.isCells = false) : BB W' a l := by
  cases a with
  | none => exact h
  | some p =>
    obtain ⟨hs, cs, fz, h1, h2⟩ := h
    exact ⟨hs, cs, fz, (grownBy_keeps_cells hg hr h1 rfl).trans h1, h2⟩

theorem Ext.below {w w' : World} (h : Ext w w') {N : Nat} (hN : N ≤ w.heap.size) : Below N w w' := (h.turn []).below hN (by simp)

def bestF (s : St) (below : Int) (view : Int) : Option (Int × Bytes) := match s.prepared view with
    | some v => if view < below then some (view, v) else none
    | none => none
theorem best_eq (s : St) (below : Int) : s.best below = (isort (s.prepares.map (·.1))).reverse.findSome? (bestF s below) := rfl

def BestPost (o : Option (Int × Bytes)) (w : World) (e : Ending) (w' : World) : Prop :=
  Ext w w' ∧ match o with
    | some q => ∃ a c, e = .returned (.tuple #[.int .i64 q.1, .slice a q.2.length c, .bool true]) ∧ BB w' a q.2
    | none => e = .returned (.tuple #[.int .i64 (-1), .slice none 0 0, .bool false])

section
variable {fa : Nat} {w : World} {b : Nat} {p : Ptr} {F1 F2 F3 : List Nat} {s : St}

set_option maxRecDepth 100000 in
set_option maxHeartbeats 2000000 in
theorem CoreIn.best (h : CoreIn fa w b p F1 F2 F3 s) (ok : s.Ok) (below : Int) :
    Calls Try.prog 109 #[.pointer (some ⟨b, 0, none⟩), .int .i64 below] w (BestPost (s.best below) w) := by
  refine (callsIn_wide (n := 8)).1 ?_
  refine callsIn_of_wp_marks Try.func109 rfl trivial ?_ rfl
  have h1 : 1 ≤ 8 := by omega
  have d8 := cell_ofBlk (i := 8) (v := .map (some p.mpr)) h.blk rfl
  obtain ⟨es, hm, hR, hF1⟩ := h.preps
  have hl := ok.preps.length
  have hlen : es.length ≤ 10000000 := by rw [hR.length]; omega
  obtain ⟨w1, hw1⟩ : ∃ w1, ((((w.alloc (.cells #[.pointer (some ⟨b, 0, none⟩)] 26)).alloc (.cells #[.int .i64 below] 3)).alloc (.cells #[.int .i64 0] 3)).alloc (.cells #[.slice none 0 0] 29)).alloc (.cells #[.bool false] 4) = w1 := ⟨_, rfl⟩
  obtain ⟨n0, hn0⟩ : ∃ n0, w.heap.size = n0 := ⟨_, rfl⟩
  have bx : Boxed w1 n0 26 (.pointer (some ⟨b, 0, none⟩)) ∧ Boxed w1 (n0 + 1) 3 (.int .i64 below) ∧ Boxed w1 (n0 + 1 + 1) 3 (.int .i64 0) ∧ Boxed w1 (n0 + 1 + 1 + 1) 29 (.slice none 0 0) ∧ Boxed w1 (n0 + 1 + 1 + 1 + 1) 4 (.bool false) := by
    subst hn0
    rw [← hw1]
    refine ⟨((((Boxed.new w 26 _).alloc _).alloc _).alloc _).alloc _, ?_, ?_, ?_, ?_⟩
    · have := Boxed.new (w.alloc (.cells #[.pointer (some ⟨b, 0, none⟩)] 26)) 3 (.int .i64 below)
      rw [World.size_alloc] at this
      exact ((this.alloc _).alloc _).alloc _
    · have := Boxed.new ((w.alloc (.cells #[.pointer (some ⟨b, 0, none⟩)] 26)).alloc (.cells #[.int .i64 below] 3)) 3 (.int .i64 0)
      rw [World.size_alloc, World.size_alloc] at this
      exact (this.alloc _).alloc _
    · have := Boxed.new (((w.alloc (.cells #[.pointer (some ⟨b, 0, none⟩)] 26)).alloc (.cells #[.int .i64 below] 3)).alloc (.cells #[.int .i64 0] 3)) 29 (.slice none 0 0)
      rw [World.size_alloc, World.size_alloc, World.size_alloc] at this
      exact this.alloc _
    · have := Boxed.new ((((w.alloc (.cells #[.pointer (some ⟨b, 0, none⟩)] 26)).alloc (.cells #[.int .i64 below] 3)).alloc (.cells #[.int .i64 0] 3)).alloc (.cells #[.slice none 0 0] 29)) 4 (.bool false)
      rw [World.size_alloc, World.size_alloc, World.size_alloc, World.size_alloc] at this
      exact this
  obtain ⟨b2, b3, b4, b5, b6⟩ := bx
  have hB1 : Below n0 w w1 := by
    subst hn0
    rw [← hw1]
    exact (((((Below.refl _ w).alloc (Nat.le_refl _) _).alloc (by simp) _).alloc (by simp; omega) _).alloc (by simp; omega) _).alloc (by simp; omega) _
  have hE1 : Ext w w1 := ext_of_below (hn0 ▸ hB1)
  have c2 := b2.cell
  have c1 := h.ext hE1
  have d8 := cell_ofBlk (i := 8) (v := .map (some p.mpr)) c1.blk rfl
  have hm1 := hE1.heap hm
  simp only [Try.ntmps109, List.size_toArray, List.length_cons, List.length_nil, Nat.reduceAdd, Nat.reduceSub, Array.replicate_succ, Array.replicate_zero, List.push_toArray, List.append_toArray, List.nil_append, List.cons_append]
  have f70 : Fence.wide.fn 70 := trivial
  have f69 : Fence.wide.fn 69 := trivial
  have f125 : Fence.wide.fn 125 := trivial
  gi_wp2_with (first
    | (gi_at_call 70; refine (callsIn_wide.2 (keys_of _ _)).mono ?_ ; rintro e w2 ⟨rfl, rfl⟩)
    | (gi_at_call 69; refine (callsIn_wide.2 (sorted95 p.mpr es w1 hm1 hlen)).mono ?_; rintro e w2 ⟨a, c, rfl, hI, hE, _⟩)
    | (gi_at_call 125; refine (callsIn_wide.2 (backward_of _ _ _ _)).mono ?_; rintro e w3 ⟨rfl, rfl⟩))
  clear f70 f69 f125
  have hlk : (isort (es.map (·.1))).length = es.length := by rw [(isort_perm _).length_eq]; simp
  have hkeys := hR.keys
  obtain ⟨xs, hxs⟩ : ∃ xs, isort (es.map (·.1)) = xs := ⟨_, rfl⟩
  rw [hxs] at hlk hI
  obtain ⟨w3, hw3⟩ : ∃ w3, w2.alloc (.cells #[.slice a es.length c] 51) = w3 := ⟨_, rfl⟩
  have hE3 : Ext w1 w3 := by rw [← hw3]; exact ((ext_of_grown (World.grownBy_alloc w1 _ none)).trans hE).trans (ext_of_grown (World.grownBy_alloc w2 _ none))
  have hc3 : w3.cell? ⟨w2.heap.size, 0, none⟩ = some (.slice a xs.length c) := by rw [← hw3, hlk]; simp
  have hs3 : w3.heap.size = w2.heap.size + 1 := by rw [← hw3]; simp
  have hI3 : IS w3 a xs := by rw [← hw3]; exact hI.ext (ext_of_grown (World.grownBy_alloc w2 _ none))
  have hn3 : n0 ≤ w3.heap.size := by have := hE3.size; have := hB1.size; rw [← hn0] at *; omega
  have hmain : ∀ W, Boxed W (n0 + 1 + 1 + 1 + 1) 4 (.bool false) → n0 + 1 + 1 + 1 + 1 < W.heap.size := fun W h => h.lt
  rw [hw3]
  have hB3 : Below n0 w w3 := hB1.trans (by have h1 := hE3.turn []; exact (h1.below (Nat.le_trans (Nat.le_of_eq hn0.symm) hB1.size) (by simp)))
  have g2 : Boxed w3 n0 26 (.pointer (some ⟨b, 0, none⟩)) := hE3.heap b2
  have g3 : Boxed w3 (n0 + 1) 3 (.int .i64 below) := hE3.heap b3
  have g4 : Boxed w3 (n0 + 1 + 1) 3 (.int .i64 0) := hE3.heap b4
  have g5 : Boxed w3 (n0 + 1 + 1 + 1) 29 (.slice none 0 0) := hE3.heap b5
  have g6 : Boxed w3 (n0 + 1 + 1 + 1 + 1) 4 (.bool false) := hE3.heap b6
  clear hw1 hw3 b2 b3 b4 b5 b6 c2 c1 d8 hm1
  refine wpIn_rangeFunc_ownF rfl h1 (gf := 138) (lb := #[.pointer (some ⟨w2.heap.size, 0, none⟩)]) rfl trivial (enters_of Try.func138 (by kernel_rfl) rfl)
    (backF (by omega) w2.heap.size a c xs w3 (by omega) hc3 hI3 (by omega)) belowK_t (belowK_b (Nat.le_refl _)) (Below.refl _ _) (fun _ => rfl)
    (fun pre W => (Boxed W n0 26 (.pointer (some ⟨b, 0, none⟩)) ∧ Boxed W (n0 + 1) 3 (.int .i64 below) ∧ Boxed W (n0 + 1 + 1) 3 (.int .i64 0) ∧ Boxed W (n0 + 1 + 1 + 1) 29 (.slice none 0 0) ∧ Boxed W (n0 + 1 + 1 + 1 + 1) 4 (.bool false) ∧
      (pre.map (·.2)).findSome? (bestF s below) = none ∧ w3.heap.size ≤ W.heap.size) ∧ Below n0 w W)
    (fun c pre W => (c = .ret ∧ ∃ q av cv, (pre.map (·.2)).findSome? (bestF s below) = some q ∧ Boxed W (n0 + 1 + 1) 3 (.int .i64 q.1) ∧ Boxed W (n0 + 1 + 1 + 1) 29 (.slice av q.2.length cv) ∧ Boxed W (n0 + 1 + 1 + 1 + 1) 4 (.bool true) ∧ BB W av q.2) ∧ Below n0 w W)
    (OwnFrom.and (Own.from (fun s A B row hs hg hr => ⟨boxed_own _ _ (fun _ => _) s A B row hs.1 hg hr, boxed_own _ _ (fun _ => _) s A B row hs.2.1 hg hr, boxed_own _ _ (fun _ => _) s A B row hs.2.2.1 hg hr, boxed_own _ _ (fun _ => _) s A B row hs.2.2.2.1 hg hr,
      boxed_own _ _ (fun _ => _) s A B row hs.2.2.2.2.1 hg hr, hs.2.2.2.2.2.1, Nat.le_trans hs.2.2.2.2.2.2 hg.size⟩) _) (ownFrom_below (Nat.le_of_eq hn0.symm) hn3))
    (fun c => OwnFrom.and (Own.from (fun s A B row hs hg hr => ⟨hs.1, by
      obtain ⟨_, q, av, cv, h1, h2, h3, h4, h5⟩ := hs
      exact ⟨q, av, cv, h1, boxed_own _ _ (fun _ => _) s A B row h2 hg hr, boxed_own _ _ (fun _ => _) s A B row h3 hg hr, boxed_own _ _ (fun _ => _) s A B row h4 hg hr, h5.kept hg hr⟩⟩) _) (ownFrom_below (Nat.le_of_eq hn0.symm) hn3))
    ⟨⟨g2, g3, g4, g5, g6, rfl, Nat.le_refl _⟩, hB3⟩
    (fun x => { tmps := #[.pointer (some ⟨b, 0, none⟩), .int .i64 below, .pointer (some ⟨n0, 0, none⟩), .pointer (some ⟨n0 + 1, 0, none⟩), .pointer (some ⟨n0 + 1 + 1, 0, none⟩), .pointer (some ⟨n0 + 1 + 1 + 1, 0, none⟩), .pointer (some ⟨n0 + 1 + 1 + 1 + 1, 0, none⟩), undef, .int .i64 x.2, undef, undef,
      .pointer (some ⟨b, 0, none⟩), .pointer (some ⟨b, 0, none⟩), .pointer (some ⟨b, 8, none⟩), .map (some p.mpr), .func (.func 95) #[] #[.pointer (some ⟨w1.heap.size, 0, none⟩)], .slice a es.length c, .func (.func 138) #[] #[.pointer (some ⟨w2.heap.size, 0, none⟩)], .int .i64 x.1, .int .i64 x.2,
      undef, undef, undef, undef, undef, undef, undef, undef, undef, undef, undef, undef, undef, undef], defers := [] }) ?assign ?body ?done ?stop
  case assign =>
    intro l x W K hK
    gi_wp2
    exact hK
  case body =>
    rintro l pre x W ⟨⟨g2, g3, g4, g5, g6, hpre, hsz⟩, hB⟩ hlt
    have hEw : Ext w W := ext_of_below (hn0 ▸ hB)
    have hW := h.ext hEw
    have c2 := g2.cell
    obtain ⟨o, ho⟩ : ∃ o, s.prepared x.2 = o := ⟨_, rfl⟩
    have cP := hW.prepared ok x.2
    have hbf : bestF s below x.2 = (s.prepared x.2).bind fun v => if x.2 < below then some (x.2, v) else none := by unfold bestF; cases s.prepared x.2 <;> rfl
    rw [ho] at cP hbf
    have hcat : (List.map (fun y : Int × Int => y.2) (pre ++ [x])).findSome? (bestF s below) = bestF s below x.2 := by
      rw [List.map_append, List.findSome?_append, hpre]
      simp
    have hn3' : n0 ≤ w3.heap.size := hn3
    cases o with
    | none =>
      gi_wp2_with (refine ⟨trivial, ?_⟩; gi_at_call 111; refine (CallsIn.inRound l (callsIn_wide.2 cP)).mono ?_; rintro e W1 ⟨hE, rfl⟩)
      have hB1 : Below w3.heap.size W W1 := hE.below hsz
      exact ⟨⟨hE.size, fun k o hk _ => hE.heap hk⟩, hB1, ⟨hE.heap g2, hE.heap g3, hE.heap g4, hE.heap g5, hE.heap g6, by rw [hcat, hbf]; rfl, Nat.le_trans hsz hE.size⟩, hB.trans (hB1.mono hn3)⟩
    | some v =>
      gi_wp2_with (refine ⟨trivial, ?_⟩; gi_at_call 111; refine (CallsIn.inRound l (callsIn_wide.2 cP)).mono ?_; rintro e W1 ⟨hE, av, cv, rfl, hbv⟩; have g3' := (show Boxed W1 _ _ _ from hE.heap g3).cell; have g4c := (show Boxed W1 _ _ _ from hE.heap g4).cell; have g4f := (show Boxed W1 _ _ _ from hE.heap g4).frozen; have g5c := (show Boxed W1 _ _ _ from hE.heap g5).cell; have g5f := (show Boxed W1 _ _ _ from hE.heap g5).frozen; have g6c := (show Boxed W1 _ _ _ from hE.heap g6).cell; have g6f := (show Boxed W1 _ _ _ from hE.heap g6).frozen)
      · rename_i hv
        have hv' : x.2 < below := by simpa using hv
        have hB1 : Below n0 w W1 := hB.trans ((hE.below hsz).mono hn3)
        have s4 : Boxed W1 (n0 + 1 + 1) 3 (.int .i64 0) := hE.heap g4
        have s5 : Boxed W1 (n0 + 1 + 1 + 1) 29 (.slice none 0 0) := hE.heap g5
        have s6 : Boxed W1 (n0 + 1 + 1 + 1 + 1) 4 (.bool false) := hE.heap g6
        refine ⟨⟨by simpa using hE.size, fun k o hk ho => ?_⟩, ⟨rfl, (x.2, v), av, cv, by rw [hcat, hbf]; simp [hv'], ?_, ?_, ?_, ?_⟩, ?_⟩
        · exact (((KeepsOthers.setCell _ _ _).trans (KeepsOthers.setCell _ _ _)).trans (KeepsOthers.setCell _ _ _)).same k o (hE.heap hk) ho
        · exact ((s4.set _).other (by omega) _).other (by omega) _
        · exact ((s5.other (by omega) _).set _).other (by omega) _
        · exact ((s6.other (by omega) _).other (by omega) _).set _
        · have nb : ∀ {U : World} {k t : Nat} {u : Value}, Boxed U k t u → t ≠ 5 → ∀ {l : List UInt8} {z : Option Addr}, BB U z l → ∀ y, BB (U.setCell ⟨k, 0, none⟩ y) z l := fun {U k t u} hbx ht {l z} hz y =>
            hz.turn (Turn.setCell U ⟨k, 0, none⟩ y) (fun m hm cs fz e => by
              simp only [List.mem_singleton] at hm
              subst hm
              rw [show U.heap[m]? = _ from hbx] at e
              injection e with e
              injection e with _ e2 _
              exact ht e2)
          exact nb ((s6.other (by omega) _).other (by omega) _) (by decide) (nb (s5.other (by omega) _) (by decide) (nb s4 (by decide) hbv _) _) _
        · exact ((hB1.setCell (p := ⟨n0 + 1 + 1, 0, none⟩) (by simp; omega) _).setCell (p := ⟨n0 + 1 + 1 + 1, 0, none⟩) (by simp; omega) _).setCell (p := ⟨n0 + 1 + 1 + 1 + 1, 0, none⟩) (by simp; omega) _
      · rename_i hv
        have hv' : ¬ x.2 < below := by simpa using hv
        have hB1 : Below w3.heap.size W W1 := hE.below hsz
        exact ⟨⟨hE.size, fun k o hk _ => hE.heap hk⟩, hB1, ⟨hE.heap g2, hE.heap g3, hE.heap g4, hE.heap g5, hE.heap g6, by rw [hcat, hbf]; simp [hv'], Nat.le_trans hsz hE.size⟩, hB.trans (hB1.mono hn3)⟩
  case done =>
    rintro D ys W hD rfl ⟨⟨g2, g3, g4, g5, g6, hpre, hsz⟩, hB⟩ hK
    have hno : s.best below = none := by
      rw [rev_snd] at hpre
      rw [best_eq, ← hkeys, hxs]
      exact hpre
    have c4 := g4.cell
    have f4 := g4.frozen
    have c5 := g5.cell
    have f5 := g5.frozen
    have c6 := g6.cell
    have f6 := g6.frozen
    gi_wp2
    obtain ⟨W', hW'⟩ : ∃ W', ((W.setCell ⟨n0 + 1 + 1, 0, none⟩ (.int .i64 (-1))).setCell ⟨n0 + 1 + 1 + 1, 0, none⟩ (.slice none 0 0)).setCell ⟨n0 + 1 + 1 + 1 + 1, 0, none⟩ (.bool false) = W' := ⟨_, rfl⟩
    have r4 : Boxed W' (n0 + 1 + 1) 3 (.int .i64 (-1)) := by rw [← hW']; exact ((g4.set _).other (by omega) _).other (by omega) _
    have r5 : Boxed W' (n0 + 1 + 1 + 1) 29 (.slice none 0 0) := by rw [← hW']; exact ((g5.other (by omega) _).set _).other (by omega) _
    have r6 : Boxed W' (n0 + 1 + 1 + 1 + 1) 4 (.bool false) := by rw [← hW']; exact ((g6.other (by omega) _).other (by omega) _).set _
    have hK' : W'.heap[D]? = some (.deferred (some [])) := by rw [← hW']; exact (((KeepsOthers.setCell _ _ _).trans (KeepsOthers.setCell _ _ _)).trans (KeepsOthers.setCell _ _ _)).same D _ hK rfl
    have hB' : Below n0 w W' := by rw [← hW']; exact ((hB.setCell (p := ⟨n0 + 1 + 1, 0, none⟩) (by simp; omega) _).setCell (p := ⟨n0 + 1 + 1 + 1, 0, none⟩) (by simp; omega) _).setCell (p := ⟨n0 + 1 + 1 + 1 + 1, 0, none⟩) (by simp; omega) _
    rw [hW']
    clear hW' c4 f4 c5 f5 c6 f6
    have hput := grownBy_putObj' W' D (.deferred none)
    have hrow : ∀ r, some D = some r → ∃ o : Obj, W'.heap[r]? = some o ∧ o.isCells = false := fun r e => by cases e; exact ⟨_, hK', rfl⟩
    have t4 := cell_kept r4.cell hput hrow
    have t5 := cell_kept r5.cell hput hrow
    have t6 := cell_kept r6.cell hput hrow
    refine ⟨by simp, .inl ⟨_, _, rfl, run_takeDeferred hK', ?_⟩⟩
    refine ⟨.tuple #[.int .i64 (-1), .slice none 0 0, .bool false], ?_, ?_, ?_⟩
    · simp [results, Try.f109, go_sem, t4, t5, t6]
    · exact ext_of_below (hn0 ▸ hB'.trans (belowK_b (w := w) (Nat.le_of_eq hn0.symm) W' D _ _ (by omega) hK' rfl rfl))
    · rw [hno]
  case stop =>
    rintro D c pre W hD hpre ⟨⟨rfl, q, av, cv, hq, e1, e2, e3, e4⟩, hB⟩ hK
    gi_wp2
    have hsome : s.best below = some q := by
      obtain ⟨rest, hrest⟩ := hpre
      have h3 : (rev xs).map (·.2) = pre.map (·.2) ++ rest.map (·.2) := by rw [← hrest, List.map_append]
      rw [rev_snd] at h3
      rw [best_eq, ← hkeys, hxs, h3, List.findSome?_append, hq]
      rfl
    have hput := grownBy_putObj' W D (.deferred none)
    have hrow : ∀ r, some D = some r → ∃ o : Obj, W.heap[r]? = some o ∧ o.isCells = false := fun r e => by cases e; exact ⟨_, hK, rfl⟩
    have t4 := cell_kept e1.cell hput hrow
    have t5 := cell_kept e2.cell hput hrow
    have t6 := cell_kept e3.cell hput hrow
    refine ⟨by simp, .inl ⟨_, _, rfl, run_takeDeferred hK, ?_⟩⟩
    refine ⟨.tuple #[.int .i64 q.1, .slice av q.2.length cv, .bool true], ?_, ?_, ?_⟩
    · simp [results, Try.f109, go_sem, t4, t5, t6]
    · exact ext_of_below (hn0 ▸ hB.trans (belowK_b (w := w) (Nat.le_of_eq hn0.symm) W D _ _ (by omega) hK rfl rfl))
    · rw [hsome]
      exact ⟨av, cv, rfl, e4.kept hput hrow⟩
end
end Go.Proofs.Ytiofkiaibcmdhaa
