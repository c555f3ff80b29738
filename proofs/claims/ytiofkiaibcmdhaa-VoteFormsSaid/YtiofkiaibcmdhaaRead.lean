import Derived.Test.YtiofkiaibcmdhaaCores
import Derived.Deep.Slices
import Derived.ProofKit
import Derived.Deep.MidRow
import Derived.OpenShut
namespace Go.Proofs.Ytiofkiaibcmdhaa
open Go Go.RowKit Go.Deep Go.ChangeShapes Go.ChangeAt

/-- Fits into an int. -/
def Fit (n : Int) : Prop := -9223372036854775808 ≤ n ∧ n ≤ 9223372036854775807
theorem fit_of_wf {n : Int} (h : (Lit.int .i64 n).wf = true) : Fit n := by
  exact bounds_i64 h

/-- What came in as a row of things of so many cells each. -/
def RowsAt (w : World) (a : Option Addr) (size : Nat) (rows : List (List Value)) : Prop := rows = [] ∨ ∃ b o, a = some ⟨b, o, none⟩ ∧ ∀ (i : Nat) r, rows[i]? = some r → w.rangeAt b (o + i * size) r

theorem RowsAt.at {w : World} {a : Option Addr} {size : Nat} {rows : List (List Value)} (h : RowsAt w a size rows) {i : Nat} {r : List Value} (hi : rows[i]? = some r) : ∃ b o, a = some ⟨b, o, none⟩ ∧ w.rangeAt b (o + i * size) r := by
  rcases h with rfl | ⟨b, o, ha, h⟩
  · simp at hi
  · exact ⟨b, o, ha, h i r hi⟩
theorem rangeAt_ext {w w' : World} {b o : Nat} {cs : List Value} (h : w.rangeAt b o cs) (hE : Ext w w') : w'.rangeAt b o cs := fun j v hv => by
  have h1 := h j v hv
  unfold World.cell? at h1 ⊢
  simp only at h1 ⊢
  cases hb : w.heap[b]? with
  | none => rw [hb] at h1; cases h1
  | some x => rw [hE.heap hb]; rw [hb] at h1; exact h1
theorem RowsAt.ext {w w' : World} {a : Option Addr} {size : Nat} {rows : List (List Value)} (h : RowsAt w a size rows) (hE : Ext w w') : RowsAt w' a size rows := by
  rcases h with rfl | ⟨b, o, ha, h⟩
  · exact .inl rfl
  · exact .inr ⟨b, o, ha, fun i r hr => rangeAt_ext (h i r hr) hE⟩

section
variable {H : Type} {enc : TypeId × Value → H} {w : World} {base : Nat} {spare : Nat → Bool} {held : Bool} {fuel : Nat} {cs : List Value} {x : DataW H × List MemPlace}

theorem rd_int {t : TypeId} (ht : Try.prog.underlying t = some (.int .i64)) (h : DataW.trod enc Try.prog w base spare held fuel t cs = some x) : ∃ n, cs = [.int .i64 n] ∧ Fit n := by
  obtain ⟨n, h1, _, h3⟩ := DataW.trod_int ht h
  exact ⟨n, h1, fit_of_wf h3⟩

theorem bytes_of (l : List Int) (h : ∀ n ∈ l, (Lit.int .u8 n).wf = true) : ∃ m : Bytes, m.length = l.length ∧ ∀ (i : Nat) (hi : i < m.length), l[i]? = some ((m[i].toNat : Nat) : Int) := by
  induction l with
  | nil => exact ⟨[], rfl, fun i hi => by simp at hi⟩
  | cons n l ih =>
    obtain ⟨m, h1, h2⟩ := ih fun k hk => h k (List.mem_cons_of_mem _ hk)
    have hn := h n (List.mem_cons_self ..)
    have hn' : 0 ≤ n ∧ n ≤ 255 := bounds_u8 hn
    refine ⟨UInt8.ofNat n.toNat :: m, by simp [h1], fun i hi => ?_⟩
    cases i with
    | zero =>
      simp only [List.getElem?_cons_zero, List.getElem_cons_zero, Option.some.injEq]
      have : (UInt8.ofNat n.toNat).toNat = n.toNat := by
        rw [UInt8.toNat_ofNat']
        exact Nat.mod_eq_of_lt (by omega)
      rw [this]
      omega
    | succ i => simpa using h2 i (by simpa using hi)

theorem rd_bytes (h : DataW.trod enc Try.prog w base spare held fuel 29 cs = some x) : ∃ a l c, cs = [.slice a (List.length l) c] ∧ BS w a l ∧ l.length ≤ maxLen := by
  rcases open_ints Try.underlying29 Try.underlying5 (by kernel_rfl) h with ⟨rfl, _⟩ | ⟨a, len, cap, zs, rfl, _, hl, hm, hz, _, hcell, hwz⟩
  · exact ⟨none, [], 0, rfl, rfl, by simp⟩
  · obtain ⟨m, h1, h2⟩ := bytes_of (zs.take len) fun n hn => hwz n (List.mem_of_mem_take hn)
    have hzl : len ≤ zs.length := by rw [hz]; split <;> omega
    have hml : m.length = len := by rw [h1, List.length_take]; omega
    refine ⟨some a, m, cap, by rw [hml], fun i hi => ?_, by omega⟩
    have h3 := hcell i (by omega)
    have h4 := h2 i hi
    rw [List.getElem?_take_of_lt (by omega)] at h4
    rw [h3]
    unfold byteV
    congr 2
    rw [List.getD, h4]
    rfl

theorem take_one {α : Type} {l : List α} {k : Nat} {v : α} (h : (l.drop k).take 1 = [v]) : l[k]? = some v := by
  have := congrArg (·[0]?) h
  simpa using this
theorem take_drop {α : Type} {l m : List α} {k n : Nat} (h : (l.drop k).take n = m) (i : Nat) (v : α) (hi : m[i]? = some v) : l[k + i]? = some v := by
  subst h
  rw [List.getElem?_take] at hi
  split at hi
  · rw [List.getElem?_drop] at hi; exact hi
  · cases hi

theorem list_ext6 {cs : List Value} (hl : cs.length = 6) {a b c d e f : Value} (h0 : cs[0]? = some a) (h1 : cs[1]? = some b) (h2 : cs[2]? = some c) (h3 : cs[3]? = some d) (h4 : cs[4]? = some e) (h5 : cs[5]? = some f) : cs = [a, b, c, d, e, f] := by
  match cs, hl with
  | [_, _, _, _, _, _], _ => simp_all

theorem rd_vote (h : DataW.trod enc Try.prog w base spare held fuel 31 cs = some x) : ∃ (v : Vt) (a : Option Addr) (c : Nat), cs = (voteCells v a c).toList ∧ (v.value.length ≤ 100000 → v.fits) ∧ BS w a v.value ∧ v.value.length ≤ maxLen := by
  obtain ⟨xs, n, _, _, hl, hlen, hf⟩ := DataW.trod_struct Try.underlying31 h
  have hl6 : cs.length = 6 := hl.trans (by kernel_rfl)
  have hget : ∀ i : Nat, i < 6 → ∃ y, xs[i]? = some y := fun i hi => ⟨_, List.getElem?_eq_getElem (by rw [hlen]; exact hi)⟩
  have c3 : Try.prog.cellsOf 3 = 1 := by kernel_rfl
  have c29 : Try.prog.cellsOf 29 = 1 := by kernel_rfl
  obtain ⟨y0, e0⟩ := hget 0 (by omega)
  obtain ⟨y1, e1⟩ := hget 1 (by omega)
  obtain ⟨y2, e2⟩ := hget 2 (by omega)
  obtain ⟨y3, e3⟩ := hget 3 (by omega)
  obtain ⟨y4, e4⟩ := hget 4 (by omega)
  obtain ⟨y5, e5⟩ := hget 5 (by omega)
  have f0 := hf 0 _ rfl
  have f1 := hf 1 _ rfl
  have f2 := hf 2 _ rfl
  have f3 := hf 3 _ rfl
  have f4 := hf 4 _ rfl
  have f5 := hf 5 _ rfl
  rw [e0] at f0; rw [e1] at f1; rw [e2] at f2; rw [e3] at f3; rw [e4] at f4; rw [e5] at f5
  obtain ⟨k0, g0, b0⟩ := rd_int (cs := (cs.drop 0).take (Try.prog.cellsOf 3)) Try.underlying3 f0
  obtain ⟨k1, g1, b1⟩ := rd_int (cs := (cs.drop 1).take (Try.prog.cellsOf 3)) Try.underlying3 f1
  obtain ⟨k2, g2, b2⟩ := rd_int (cs := (cs.drop 2).take (Try.prog.cellsOf 3)) Try.underlying3 f2
  obtain ⟨k3, g3, b3⟩ := rd_int (cs := (cs.drop 3).take (Try.prog.cellsOf 3)) Try.underlying3 f3
  obtain ⟨k4, g4, b4⟩ := rd_int (cs := (cs.drop 4).take (Try.prog.cellsOf 3)) Try.underlying3 f4
  obtain ⟨a, l, c, g5, b5, b6⟩ := rd_bytes (cs := (cs.drop 5).take (Try.prog.cellsOf 29)) f5
  rw [c3] at g0 g1 g2 g3 g4
  rw [c29] at g5
  refine ⟨⟨k0, k1, k2, k3, k4, l⟩, a, c, list_ext6 hl6 (take_one g0) (take_one g1) (take_one g2) (take_one g3) (take_one g4) (take_one g5), fun hl => ?_, b5, b6⟩
  unfold Fit at b0 b1 b2 b3 b4
  unfold Vt.fits
  simp only at hl ⊢
  omega

theorem range_get {n i k : Nat} (h : (List.range n)[i]? = some k) : i < n ∧ k = i := by
  have hlt := (List.getElem?_eq_some_iff.1 h).1
  rw [List.length_range] at hlt
  rw [List.getElem?_range hlt] at h
  injection h with h
  exact ⟨hlt, h.symm⟩

/-- A slice that came in, element by element. -/
theorem rd_slice {t e size : Nat} (ht : Try.prog.underlying t = some (.slice e)) (hc : Try.prog.cellsOf e = size) (hs : 0 < size) {α : Type} [Inhabited α] {R : List Value → α → Prop}
    (hR : ∀ fuel cs x, DataW.trod enc Try.prog w base spare held fuel e cs = some x → ∃ y, R cs y) (h : DataW.trod enc Try.prog w base spare held fuel t cs = some x) :
    ∃ (a : Option Addr) (c : Nat) (rows : List (List Value)) (ys : List α), cs = [.slice a rows.length c] ∧ RowsAt w a size rows ∧ ys.length = rows.length ∧ (∀ (i : Nat) r y, rows[i]? = some r → ys[i]? = some y → r.length = size ∧ R r y) ∧ rows.length ≤ maxLen := by
  rcases open_slice ht h with ⟨rfl, _⟩ | ⟨a, len, cap, m, n, D, Pl, rfl, hb, hl, hm, hmm, _, hx⟩
  · exact ⟨none, 0, [], [], rfl, .inl rfl, rfl, fun i r y hr => by simp at hr, by simp⟩
  · have hlm : len ≤ m := by rw [hmm]; split <;> omega
    obtain ⟨F, hF⟩ := choose_lt (α := List Value × α) (p := fun i q => w.cells? base (a.add (i * size)) size = some q.1 ∧ R q.1 q.2) (fun i (hi : i < len) => by
      obtain ⟨cs', h1, h2⟩ := hx i (by omega)
      rw [hc] at h1
      obtain ⟨y, hy⟩ := hR n cs' _ h2
      exact ⟨(cs', y), h1, hy⟩)
    refine ⟨some a, cap, (List.range len).map fun i => (F i).1, (List.range len).map fun i => (F i).2, by simp, ?_, by simp, fun i r y hr hy => ?_, by simp; omega⟩
    · by_cases h0 : len = 0
      · subst h0; exact .inl rfl
      · obtain ⟨_, hlen0, hc0⟩ := World.cells?_some (hF 0 (by omega)).1
        have hcell := hc0 0 hs
        rw [Nat.zero_mul, Addr.add_zero', Addr.add_zero'] at hcell
        obtain ⟨ab, ao, asp⟩ := a
        have has : asp = none := by
          have h1 : ∃ u, (F 0).1[0]? = some u := ⟨_, List.getElem?_eq_getElem (by omega)⟩
          obtain ⟨u, hu⟩ := h1
          rw [hu] at hcell
          unfold World.cell? at hcell
          split at hcell
          · split at hcell
            · cases hcell
            · rename_i hss; simpa using hss
          · cases hcell
        subst has
        refine .inr ⟨ab, ao, rfl, fun i r hr => ?_⟩
        rw [List.getElem?_map] at hr
        obtain ⟨k, hk, rfl⟩ := Option.map_eq_some_iff.1 hr
        obtain ⟨hk1, rfl⟩ := range_get hk
        obtain ⟨_, hlen', hc'⟩ := World.cells?_some (hF _ hk1).1
        intro j v hv
        have hj : j < size := by have := (List.getElem?_eq_some_iff.1 hv).1; omega
        have := hc' j hj
        rw [Addr.add_lit, Addr.add_lit] at this
        rw [this]
        exact hv
    · rw [List.getElem?_map] at hr hy
      obtain ⟨k, hk, rfl⟩ := Option.map_eq_some_iff.1 hr
      obtain ⟨k', hk', rfl⟩ := Option.map_eq_some_iff.1 hy
      obtain ⟨hk1, rfl⟩ := range_get hk
      obtain ⟨_, rfl⟩ := range_get hk'
      obtain ⟨_, hlen', _⟩ := World.cells?_some (hF _ hk1).1
      exact ⟨hlen', (hF _ hk1).2⟩

/-! ### acts -/

/-- An act, and where its bytes lie. -/
structure ActD where
  kind : Int
  v : Vt
  va : Option Addr
  vc : Nat
  value : Bytes
  xa : Option Addr
  xc : Nat
instance : Inhabited Vt := ⟨⟨0, 0, 0, 0, 0, []⟩⟩
instance : Inhabited ActD := ⟨⟨0, default, none, 0, [], none, 0⟩⟩
def ActD.cells (x : ActD) : List Value := .int .i64 x.kind :: ((voteCells x.v x.va x.vc).toList ++ [.slice x.xa x.value.length x.xc])
/-- What is known of an act that came in. -/
structure ActD.At (w : World) (x : ActD) : Prop where
  kind : Fit x.kind
  fits : x.v.value.length ≤ 100000 → x.v.fits
  vote : BS w x.va x.v.value
  value : BS w x.xa x.value
  vl : x.v.value.length ≤ maxLen
  xl : x.value.length ≤ maxLen

theorem list_ext8 {cs ms : List Value} (hl : cs.length = 8) {a f : Value} (h0 : cs[0]? = some a) (hm : (cs.drop 1).take 6 = ms) (h5 : cs[7]? = some f) : cs = a :: (ms ++ [f]) := by
  match cs, hl with
  | [_, _, _, _, _, _, _, _], _ => subst hm; simp_all

theorem rd_act (h : DataW.trod enc Try.prog w base spare held fuel 33 cs = some x) : ∃ y : ActD, cs = y.cells ∧ y.At w := by
  obtain ⟨xs, n, _, _, hl, hlen, hf⟩ := DataW.trod_struct Try.underlying33 h
  have hl8 : cs.length = 8 := hl.trans (by kernel_rfl)
  have hget : ∀ i : Nat, i < 3 → ∃ y, xs[i]? = some y := fun i hi => ⟨_, List.getElem?_eq_getElem (by rw [hlen]; exact hi)⟩
  have c3 : Try.prog.cellsOf 3 = 1 := by kernel_rfl
  have c29 : Try.prog.cellsOf 29 = 1 := by kernel_rfl
  have c31 : Try.prog.cellsOf 31 = 6 := by kernel_rfl
  obtain ⟨y0, e0⟩ := hget 0 (by omega)
  obtain ⟨y1, e1⟩ := hget 1 (by omega)
  obtain ⟨y2, e2⟩ := hget 2 (by omega)
  have f0 := hf 0 _ rfl
  have f1 := hf 1 _ rfl
  have f2 := hf 2 _ rfl
  rw [e0] at f0; rw [e1] at f1; rw [e2] at f2
  obtain ⟨k0, g0, b0⟩ := rd_int (cs := (cs.drop 0).take (Try.prog.cellsOf 3)) Try.underlying3 f0
  obtain ⟨v, va, vc, g1, b1, b2, b3⟩ := rd_vote (cs := (cs.drop 1).take (Try.prog.cellsOf 31)) f1
  obtain ⟨a, l, c, g5, b5, b6⟩ := rd_bytes (cs := (cs.drop 7).take (Try.prog.cellsOf 29)) f2
  rw [c3] at g0
  rw [c31] at g1
  rw [c29] at g5
  exact ⟨⟨k0, v, va, vc, l, a, c⟩, list_ext8 hl8 (take_one g0) g1 (take_one g5), ⟨b0, b1, b2, b5, b3, b6⟩⟩

/-- Acts that came in. -/
structure ActsAt (w : World) (a : Option Addr) (ys : List ActD) : Prop where
  rows : RowsAt w a 8 (ys.map ActD.cells)
  each : ∀ y ∈ ys, y.At w
  len : ys.length ≤ maxLen

theorem rd_acts (h : DataW.trod enc Try.prog w base spare held fuel 22 cs = some x) : ∃ (a : Option Addr) (c : Nat) (ys : List ActD), cs = [.slice a ys.length c] ∧ ActsAt w a ys := by
  obtain ⟨a, c, rows, ys, h1, h2, h3, h4, h5⟩ := rd_slice (size := 8) (α := ActD) (R := fun cs y => cs = y.cells ∧ y.At w) Try.underlying22 (by kernel_rfl) (by omega) (fun fuel cs x hx => rd_act hx) h
  have hm : ys.map ActD.cells = rows := by
    refine List.ext_getElem? fun i => ?_
    rw [List.getElem?_map]
    cases hy : ys[i]? with
    | none =>
      have : ys.length ≤ i := List.getElem?_eq_none_iff.1 hy
      rw [Option.map_none, List.getElem?_eq_none (by omega)]
    | some y =>
      have hlt := (List.getElem?_eq_some_iff.1 hy).1
      obtain ⟨r, hr⟩ : ∃ r, rows[i]? = some r := ⟨_, List.getElem?_eq_getElem (by omega)⟩
      rw [hr, Option.map_some, (h4 i r y hr hy).2.1]
  refine ⟨a, c, ys, by rw [h1, h3], ⟨by rw [hm]; exact h2, fun y hy => ?_, by omega⟩⟩
  obtain ⟨i, hi⟩ := List.getElem?_of_mem hy
  have hlt := (List.getElem?_eq_some_iff.1 hi).1
  obtain ⟨r, hr⟩ : ∃ r, rows[i]? = some r := ⟨_, List.getElem?_eq_getElem (by omega)⟩
  exact (h4 i r y hr hi).2.2
end

theorem ActD.At.ext {w w' : World} {x : ActD} (h : x.At w) (hE : Ext w w') : x.At w' := ⟨h.kind, h.fits, h.vote.ext hE, h.value.ext hE, h.vl, h.xl⟩
theorem ActsAt.ext {w w' : World} {a : Option Addr} {ys : List ActD} (h : ActsAt w a ys) (hE : Ext w w') : ActsAt w' a ys := ⟨h.rows.ext hE, fun y hy => (h.each y hy).ext hE, h.len⟩
theorem ActsAt.at {w : World} {a : Option Addr} {ys : List ActD} (h : ActsAt w a ys) {i : Nat} {y : ActD} (hi : ys[i]? = some y) : ∃ b o, a = some ⟨b, o, none⟩ ∧ w.rangeAt b (o + i * 8) y.cells :=
  h.rows.at (i := i) (r := y.cells) (by rw [List.getElem?_map, hi]; rfl)
end Go.Proofs.Ytiofkiaibcmdhaa
