import Derived.Test.YtiofkiaibcmdhaaArith
import Derived.Deep.Slices
namespace Go.Proofs.Ytiofkiaibcmdhaa
open Go Go.RowKit

/-- What is left to read, and whether there wasn't enough. -/
abbrev Rd := Bytes × Bool
def takeR (n : Nat) (r : Rd) : Bytes × Rd := if r.1.length < n then ([], (r.1, true)) else (r.1.take n, (r.1.drop n, r.2))

/-- A reader's struct. -/
def ReaderAt (w : World) (rb : Nat) (r : Rd) : Prop := ∃ a c, w.heap[rb]? = some (.cells #[.slice a r.1.length c, .bool r.2] 126) ∧ BB w a r.1 ∧ r.1.length ≤ c ∧ c ≤ maxLen

theorem BB.take {w : World} {a : Option Addr} {l : Bytes} (h : BB w a l) (n : Nat) : BB w a (l.take n) := by
  cases a with
  | none => have h : l = [] := h; subst h; show List.take n [] = []; simp
  | some p =>
    obtain ⟨hs, cs, fz, h1, h2⟩ := h
    refine ⟨hs, cs, fz, h1, fun i hi => ?_⟩
    have hi' : i < l.length := by rw [List.length_take] at hi; omega
    rw [h2 i hi', List.getElem_take]
theorem BB.dropM {w : World} {a : Option Addr} {l : Bytes} (h : BB w a l) (n : Nat) : BB w (Option.map (fun x => x.add n) a) (l.drop n) := by
  cases a with
  | none => have h : l = [] := h; subst h; show List.drop n [] = []; simp
  | some p =>
    obtain ⟨hs, cs, fz, h1, h2⟩ := h
    obtain ⟨pb, po, ps⟩ := p
    obtain rfl : ps = none := hs
    show BB w (some ((⟨pb, po, none⟩ : Addr).add n)) (l.drop n)
    rw [Addr.add_lit]
    refine ⟨rfl, cs, fz, h1, fun i hi => ?_⟩
    rw [List.length_drop] at hi
    rw [List.getElem_drop]
    have := h2 (n + i) (by omega)
    rw [← this]
    show cs[po + n + i]? = cs[po + (n + i)]?
    rw [Nat.add_assoc]
theorem BB.nilAt {w : World} {a : Option Addr} {l : Bytes} (h : BB w a l) : BB w a [] := by
  cases a with
  | none => rfl
  | some p =>
    obtain ⟨hs, cs, fz, h1, _⟩ := h
    exact ⟨hs, cs, fz, h1, fun i hi => by simp at hi⟩
theorem ReaderAt.noByte {w : World} {rb : Nat} {r : Rd} (h : ReaderAt w rb r) : NoByte w [rb] := by
  obtain ⟨a, c, h1, _⟩ := h
  intro k hk cs fz hc
  simp only [List.mem_singleton] at hk
  subst hk
  rw [h1] at hc
  injection hc with hc
  injection hc with _ hc _
  exact absurd hc (by decide)
theorem ReaderAt.turn {w w' : World} {rb : Nat} {r : Rd} {S : List Nat} (h : ReaderAt w rb r) (hT : Turn S w w') (hS : NoByte w S) (hr : rb ∉ S) : ReaderAt w' rb r := by
  obtain ⟨a, c, h1, h2, h3⟩ := h
  exact ⟨a, c, hT.block _ hr _ h1, h2.turn hT hS, h3⟩
theorem ReaderAt.ext {w w' : World} {rb : Nat} {r : Rd} (h : ReaderAt w rb r) (hE : Ext w w') : ReaderAt w' rb r := h.turn (hE.turn []) (NoByte.nil w) (by simp)

/-- What 'take' leaves. -/
def TookPost (rb : Nat) (r : Rd) (n : Nat) (w : World) (e : Ending) (w' : World) : Prop :=
  ∃ a' c', e = .returned (.slice a' (takeR n r).1.length c') ∧ BB w' a' (takeR n r).1 ∧ ReaderAt w' rb (takeR n r).2 ∧ Turn [rb] w w'

theorem took_fin {rb : Nat} {w w2 : World} {old : Value} {bd : Bool} {a' a : Option Addr} {o l : Bytes} {c : Nat} (hT : Turn [rb] w w2) (hx : w2.heap[rb]? = some (.cells #[old, .bool bd] 126)) (hb : BB w2 a' o) (hs : BB w2 a l) (h1 : l.length ≤ c) (h2 : c ≤ maxLen) :
    BB (w2.setCell ⟨rb, 0, none⟩ (.slice a l.length c)) a' o ∧ ReaderAt (w2.setCell ⟨rb, 0, none⟩ (.slice a l.length c)) rb (l, bd) ∧ Turn [rb] w (w2.setCell ⟨rb, 0, none⟩ (.slice a l.length c)) := by
  have hT2 := Turn.setCell w2 ⟨rb, 0, none⟩ (.slice a l.length c)
  have hn : NoByte w2 [rb] := fun k hk cs fz h => by
    simp only [List.mem_singleton] at hk
    subst hk
    rw [hx] at h
    injection h with h
    injection h with _ h _
    exact absurd h (by decide)
  exact ⟨hb.turn hT2 hn, ⟨a, c, heap_setCell_blk hx 0 _, hs.turn hT2 hn, h1, h2⟩, hT.trans hT2 (fun x hx => .inl hx)⟩

set_option maxRecDepth 100000 in
set_option maxHeartbeats 1000000 in
theorem take_of (rb : Nat) (r : Rd) (n : Nat) (w : World) (h : ReaderAt w rb r) (hn : n ≤ 4294967295) :
    Calls Try.prog 68 #[.pointer (some ⟨rb, 0, none⟩), .int .i64 n] w (TookPost rb r n w) := by
  obtain ⟨l, bad⟩ := r
  obtain ⟨a, c, hb, hbs, hlc, hcm⟩ := h
  simp only at hb hbs hlc
  have d0 := cell_ofBlk (i := 0) (v := .slice a l.length c) hb rfl
  have d1 := cell_ofBlk (i := 1) (v := .bool bad) hb rfl
  have f0 := frozen_ofBlk (i := 0) hb
  have f1 := frozen_ofBlk (i := 1) hb
  have hcm' : c ≤ 9223372036854775807 := hcm
  by_cases hlt : l.length < n
  · obtain ⟨w1, hw1⟩ : ∃ w1, w.setCell ⟨rb, 1, none⟩ (.bool true) = w1 := ⟨_, rfl⟩
    have x1 : w1.heap[rb]? = some (.cells #[.slice a l.length c, .bool true] 126) := by rw [← hw1]; exact heap_setCell_blk hb 1 _
    have t1 : Turn [rb] w w1 := by rw [← hw1]; exact Turn.setCell w ⟨rb, 1, none⟩ _
    have e0 := cell_ofBlk (i := 0) (v := .slice a l.length c) x1 rfl
    have hnr := ReaderAt.noByte (r := (l, bad)) ⟨a, c, hb, hbs, hlc, hcm⟩
    go_enter Try.func68, Try.ntmps68
    go_wp2_with (go_at_call 62; refine (clone_any a 0 c [] w1 rfl (hbs.nilAt.turn t1 hnr).bs (by simp)).mono ?_; rintro e w2 ⟨a', c', rfl, hb', hE2⟩; have x2 := hE2.heap x1; have g0 := cell_ofBlk (i := 0) (v := .slice a l.length c) x2 rfl; have y0 := frozen_ofBlk (i := 0) x2; clear e0 d0 d1 f0 f1)
    have hT2 : Turn [rb] w w2 := t1.trans (hE2.turn [rb]) (fun x hx => .inl hx)
    have hbs2 : BB w2 a l := (hbs.turn t1 hnr).ext hE2
    go_ret
    have htk : takeR n (l, bad) = ([], (l, true)) := by unfold takeR; rw [if_pos hlt]
    have hf := took_fin hT2 x2 hb' hbs2 hlc hcm
    unfold TookPost
    rw [htk]
    exact ⟨a', c', rfl, hf⟩
  · have htk : takeR n (l, bad) = (l.take n, (l.drop n, bad)) := by unfold takeR; rw [if_neg hlt]
    have hlm : (l.take n).length = n := by rw [List.length_take]; omega
    have hld : (l.drop n).length = l.length - n := List.length_drop
    go_enter Try.func68, Try.ntmps68
    go_wp2_with (go_at_call 62; refine (clone_any a n c (l.take n) w hlm (hbs.take n).bs (by omega)).mono ?_; rintro e w2 ⟨a', c', rfl, hb', hE2⟩; have x2 := hE2.heap hb; have g0 := cell_ofBlk (i := 0) (v := .slice a l.length c) x2 rfl; have y0 := frozen_ofBlk (i := 0) x2; clear d0 d1 f0 f1)
    all_goals go_ret
    all_goals unfold TookPost; rw [htk]
    · have hz : l.drop n = [] := List.eq_nil_of_length_eq_zero (by omega)
      have hf := took_fin (hE2.turn [rb]) x2 hb' (a := a) (l := l.drop n) (c := 0) (by rw [hz]; exact (hbs.ext hE2).nilAt) (by omega) (by simp)
      rw [hld] at hf
      refine ⟨a', c', ?_, hf⟩
      show Ending.returned (.slice a' n c') = .returned (.slice a' (l.take n).length c')
      rw [hlm]
    · have hf := took_fin (hE2.turn [rb]) x2 hb' (BB.dropM (hbs.ext hE2) n) (c := c - n) (by omega) (by omega)
      rw [hld] at hf
      refine ⟨a', c', ?_, hf⟩
      show Ending.returned (.slice a' n c') = .returned (.slice a' (l.take n).length c')
      rw [hlm]

/-! ### four bytes as a number -/

theorem or_byte {m : Int} (h0 : 0 ≤ m) (h1 : m < 16777216) (x : UInt8) : bits BinOp.or IntKind.i64 (m * 256) (x.toNat : Int) = m * 256 + x.toNat := by
  obtain ⟨M, rfl⟩ : ∃ M : Nat, m = M := ⟨m.toNat, by omega⟩
  have hx := x.toNat_lt
  show IntKind.i64.wrap (((BitVec.ofInt 64 ((M : Int) * 256)) ||| (BitVec.ofInt 64 (x.toNat : Int))).toNat : Int) = _
  have e1 : (BitVec.ofInt 64 ((M : Int) * 256)) = BitVec.ofNat 64 (256 * M) := by
    rw [show ((M : Int) * 256) = ((256 * M : Nat) : Int) by omega, BitVec.ofInt_natCast]
  have e2 : (BitVec.ofInt 64 (x.toNat : Int)) = BitVec.ofNat 64 x.toNat := BitVec.ofInt_natCast ..
  have e3 : ((BitVec.ofNat 64 (256 * M)) ||| (BitVec.ofNat 64 x.toNat)).toNat = 256 * M + x.toNat := by
    rw [BitVec.toNat_or, BitVec.toNat_ofNat, BitVec.toNat_ofNat, Nat.mod_eq_of_lt (by omega), Nat.mod_eq_of_lt (by omega)]
    exact (Nat.two_pow_add_eq_or_of_lt (i := 8) hx M).symm
  rw [e1, e2, e3, IntKind.wrap_i64]
  omega


def numB (l : Bytes) : Int := l.foldl (fun n x => n * 256 + x.toNat) 0
theorem numB_snoc (l : Bytes) (x : UInt8) : numB (l ++ [x]) = numB l * 256 + x.toNat := by unfold numB; rw [List.foldl_append]; rfl
theorem numB_range (l : Bytes) : 0 ≤ numB l ∧ (l.length ≤ 4 → numB l < 4294967296) ∧ (l.length ≤ 3 → numB l < 16777216) := by
  have h : ∀ (k : Nat) (m : Bytes), m.length = k → 0 ≤ numB m ∧ numB m < 256 ^ k := by
    intro k
    induction k with
    | zero => intro m hm; rw [List.eq_nil_of_length_eq_zero hm]; simp [numB]
    | succ k ih =>
      intro m hm
      obtain ⟨m', x, rfl⟩ : ∃ m' x, m = m' ++ [x] := ⟨m.dropLast, m.getLast (by intro e; rw [e] at hm; simp at hm), (List.dropLast_concat_getLast _).symm⟩
      have hk : m'.length = k := by simpa using hm
      have := ih m' hk
      have hx := x.toNat_lt
      rw [numB_snoc, Int.pow_succ]
      omega
  obtain ⟨h1, h2⟩ := h l.length l rfl
  refine ⟨h1, fun hl => ?_, fun hl => ?_⟩
  · have : (256 : Int) ^ l.length ≤ 256 ^ 4 := by
      rcases (by omega : l.length = 0 ∨ l.length = 1 ∨ l.length = 2 ∨ l.length = 3 ∨ l.length = 4) with e | e | e | e | e <;> rw [e] <;> decide
    exact Int.lt_of_lt_of_le h2 this
  · have : (256 : Int) ^ l.length ≤ 256 ^ 3 := by
      rcases (by omega : l.length = 0 ∨ l.length = 1 ∨ l.length = 2 ∨ l.length = 3) with e | e | e | e <;> rw [e] <;> decide
    exact Int.lt_of_lt_of_le h2 this
def fourR (r : Rd) : Int × Rd := (numB (takeR 4 r).1, (takeR 4 r).2)
/-- What 'four' leaves. -/
def FourPost (rb : Nat) (r : Rd) (w : World) (e : Ending) (w' : World) : Prop := e = .returned (.int .i64 (fourR r).1) ∧ ReaderAt w' rb (fourR r).2 ∧ Turn [rb] w w'

set_option maxRecDepth 100000 in
set_option maxHeartbeats 1000000 in
theorem rfour_of (rb : Nat) (r : Rd) (w : World) (h : ReaderAt w rb r) : Calls Try.prog 66 #[.pointer (some ⟨rb, 0, none⟩)] w (FourPost rb r w) := by
  obtain ⟨o, ho⟩ : ∃ o, (takeR 4 r).1 = o := ⟨_, rfl⟩
  have hol : o.length ≤ 4 := by rw [← ho]; unfold takeR; split <;> simp <;> omega
  go_enter Try.func66, Try.ntmps66
  go_wp2_with (go_at_call 68; refine (take_of rb r 4 w h (by omega)).mono ?_; rintro e w2 ⟨a', c', rfl, hb', hR2, hT2⟩; rw [ho] at hb'; rw [ho])
  go_loopw [3, 9] (fun v3 v9 wr => ∃ i : Nat, v9 = .int .i64 i ∧ i ≤ o.length ∧ v3 = .int .i64 (numB (o.take i)) ∧ wr = w2) (fun _ v _ => o.length - (intOf v).toNat)
  case atStart => exact ⟨0, rfl, by omega, rfl, rfl⟩
  case round =>
    obtain ⟨i, rfl, hi, rfl, rfl⟩ := hrel
    by_cases hlt : i < o.length
    · obtain ⟨⟨pb, po, ps⟩, rfl⟩ : ∃ p, a' = some p := by
        cases a' with
        | none => have h0 : o = [] := hb'; rw [h0] at hlt; simp at hlt
        | some p => exact ⟨p, rfl⟩
      obtain rfl : ps = none := hb'.1
      have hc := hb'.bs.cell hlt
      unfold byteV at hc
      obtain ⟨x, hx⟩ : ∃ x : UInt8, o[i] = x := ⟨_, rfl⟩
      rw [hx] at hc
      obtain ⟨m, hm⟩ : ∃ m, numB (o.take i) = m := ⟨_, rfl⟩
      have hmr := (numB_range (o.take i)).1
      have hmr2 := (numB_range (o.take i)).2.2 (by rw [List.length_take]; omega)
      rw [hm] at hmr hmr2 ⊢
      have hxr := x.toNat_lt
      have hor := or_byte hmr hmr2 x
      go_wp2_with fail
      go_roundw
      case rel =>
        refine ⟨i + 1, by simp, by omega, ?_, trivial⟩
        have hsn : o.take (i + 1) = o.take i ++ [x] := by rw [List.take_add_one, List.getElem?_eq_getElem hlt, hx]; rfl
        rw [hsn, numB_snoc, hm]
      case measure => simp only [intOf]; omega
    · have hall : o.take i = o := List.take_of_length_le (by omega)
      rw [hall]
      go_wp2_with fail
      go_ret
      exact ⟨by unfold fourR; rw [ho]; rfl, hR2, hT2⟩
end Go.Proofs.Ytiofkiaibcmdhaa
