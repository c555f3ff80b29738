import Derived.Test.YtiofkiaibcmdhaaSeg
import Derived.Test.YtiofkiaibcmdhaaModel
import Derived.WalkSpells
import Derived.WalkLawsBesides
import Derived.Laws.IdiomStrings
namespace Go.Proofs.Ytiofkiaibcmdhaa
open Go Go.RowKit

/-! ### maps keyed by ints, nothing of which is ever struck -/

def ents : Nat → List (Int × Value) → List MapEntry
  | _, [] => []
  | n, p :: r => { key := .int .i64 p.1, val := p.2, born := n } :: ents (n + 1) r

def mapObj (es : List (Int × Value)) : Obj := .map (ents 0 es).toArray es.length

def lookI : List (Int × Value) → Int → Nat → Option (Nat × Value)
  | [], _, _ => none
  | p :: r, k, i => if p.1 = k then some (i, p.2) else lookI r k (i + 1)

theorem ents_length : ∀ (n : Nat) (es : List (Int × Value)), (ents n es).length = es.length
  | _, [] => rfl
  | n, _ :: r => by simp [ents, ents_length (n + 1) r]

theorem ents_get : ∀ (n : Nat) (es : List (Int × Value)) (i : Nat), (ents n es)[i]? = (es[i]?).map fun p => { key := .int .i64 p.1, val := p.2, born := n + i }
  | _, [], i => by simp [ents]
  | n, p :: r, 0 => by simp [ents]
  | n, p :: r, i + 1 => by
    simp only [ents, List.getElem?_cons_succ]
    rw [ents_get (n + 1) r i]
    congr 1
    funext q
    congr 1
    omega

theorem findNow_ents (q : IntKind) (k : Int) : ∀ (n : Nat) (es : List (Int × Value)) (i : Nat), Instr.findNow (.int q) (.int .i64 k) (ents n es) i = some (lookI es k i)
  | _, [], _ => rfl
  | n, p :: r, i => by
    simp only [ents, Instr.findNow, Instr.sameNow, if_true, lookI]
    by_cases h : p.1 = k
    · simp [h]
    · have : (k == p.1) = false := by simp; exact fun e => h e.symm
      simp only [this, if_neg h]
      exact findNow_ents q k (n + 1) r (i + 1)

theorem lookI_getV (k : Int) : ∀ (es : List (Int × Value)) (i : Nat), (lookI es k i).map (·.2) = getV es k
  | [], _ => rfl
  | p :: r, i => by
    simp only [lookI, getV]
    split
    · rfl
    · exact lookI_getV k r (i + 1)

theorem lookI_none {k : Int} {es : List (Int × Value)} {i : Nat} (h : lookI es k i = none) (v : Value) : ∀ n, setV es k v = es ++ [(k, v)] ∧ ents n (setV es k v) = ents n es ++ [{ key := .int .i64 k, val := v, born := n + es.length }] := by
  induction es generalizing i with
  | nil => intro n; simp [setV, ents]
  | cons p r ih =>
    intro n
    simp only [lookI] at h
    split at h
    · cases h
    · rename_i hne
      obtain ⟨h1, h2⟩ := ih h (n + 1)
      simp only [setV, if_neg hne, ents, h2, List.cons_append, List.length_cons]
      rw [h1, show n + 1 + r.length = n + (r.length + 1) by omega]
      exact ⟨rfl, rfl⟩

theorem setV_length {k : Int} {es : List (Int × Value)} {v : Value} : (setV es k v).length = if (getV es k).isSome then es.length else es.length + 1 := by
  induction es with
  | nil => simp [setV, getV]
  | cons p r ih =>
    simp only [setV, getV]
    split
    · simp
    · simp only [List.length_cons, ih]; split <;> rfl

theorem modify_shift {α : Type} (x : α) (l : List α) (j i : Nat) (f : α → α) (h : i < j) : (x :: l).modify (j - i) f = x :: l.modify (j - (i + 1)) f := by
  obtain ⟨m, rfl⟩ : ∃ m, j = i + 1 + m := ⟨j - (i + 1), by omega⟩
  rw [show i + 1 + m - i = m + 1 by omega, show i + 1 + m - (i + 1) = m by omega]
  rfl

theorem lookI_some {k : Int} {es : List (Int × Value)} {i j : Nat} {u : Value} (h : lookI es k i = some (j, u)) (v : Value) :
    i ≤ j ∧ ∀ n, (ents n es).modify (j - i) (fun e => { e with key := .int .i64 k, val := v }) = ents n (setV es k v) ∧ ∃ b, (ents n es)[j - i]? = some { key := .int .i64 k, val := u, born := b } := by
  induction es generalizing i with
  | nil => cases h
  | cons p r ih =>
    simp only [lookI] at h
    split at h
    · rename_i he
      cases h
      refine ⟨Nat.le_refl _, fun n => ?_⟩
      simp [ents, setV, he]
    · rename_i hne
      obtain ⟨h1, h2⟩ := ih h
      refine ⟨by omega, fun n => ?_⟩
      obtain ⟨h3, b, h4⟩ := h2 (n + 1)
      simp only [ents, setV, if_neg hne]
      rw [modify_shift _ _ _ _ _ (by omega), h3]
      refine ⟨rfl, b, ?_⟩
      obtain ⟨m, rfl⟩ : ∃ m, j = i + 1 + m := ⟨j - (i + 1), by omega⟩
      rw [show i + 1 + m - i = m + 1 by omega]
      rw [show i + 1 + m - (i + 1) = m by omega] at h4
      simpa using h4

section
variable {P : Program}

theorem run_checkKey_int (em : Bool) (t : TypeId) (q : IntKind) (k : Int) (w : World) (h : P.underlying t = some (.int q)) : (Instr.checkKey em 10000 t (.int .i64 k)).run P w = .ok () w := by
  show (Instr.checkKey em (9999 + 1) t (.int .i64 k)).run P w = .ok () w
  unfold Instr.checkKey
  simp [run_underlying h]

theorem run_findKey_ents (t : TypeId) (q : IntKind) (k : Int) (es : List (Int × Value)) (w : World) (h : P.underlying t = some (.int q)) : (Instr.findKey t (.int .i64 k) (ents 0 es)).run P w = .ok (lookI es k 0) w := by
  unfold Instr.findKey
  simp [run_underlying h, findNow_ents]

/-- 'm[k]', 'v, ok := m[k]'. -/
theorem run_lookup_obj {t K E : TypeId} {q : IntKind} {z : Value} {r : Nat} {es : List (Int × Value)} {w : World} (c : Bool) (k : Int) (ht : P.underlying t = some (.map K E)) (hK : P.underlying K = some (.int q))
    (hz : (zeroValue E).run P w = .ok z w) (hr : w.heap[r]? = some (mapObj es)) :
    (Instr.lookup t (.map (some r)) (.int .i64 k) c).run P w = .ok (if c then .tuple #[(getV es k).getD z, .bool (getV es k).isSome] else (getV es k).getD z) w := by
  have hg : (getObj r).run P w = .ok (mapObj es) w := by unfold getObj; simp [Sem.run, hr, mapObj]
  unfold Instr.lookup
  simp only [Sem.run_bind, run_underlying ht, Result.andThen_ok, hg, mapObj, Sem.run_pure, run_checkKey_int _ _ _ _ _ hK, run_findKey_ents _ _ _ _ _ hK]
  rw [← lookI_getV k es 0]
  cases hl : lookI es k 0 with
  | none => simp [hz]
  | some p => obtain ⟨i, v⟩ := p; simp

theorem run_lookup_nilmap {t K E : TypeId} {q : IntKind} {z : Value} {w : World} (c : Bool) (k : Int) (ht : P.underlying t = some (.map K E)) (hK : P.underlying K = some (.int q))
    (hz : (zeroValue E).run P w = .ok z w) : (Instr.lookup t (.map none) (.int .i64 k) c).run P w = .ok (if c then .tuple #[z, .bool false] else z) w := by
  have hf := run_findKey_ents (P := P) K q k [] w hK
  simp only [ents, lookI] at hf
  unfold Instr.lookup
  simp only [Sem.run_bind, run_underlying ht, Result.andThen_ok, Sem.run_pure, run_checkKey_int _ _ _ _ _ hK, hf]
  simp [hz]

/-- The world with another thing in a block. -/
def putB (w : World) (r : Nat) (o : Obj) : World := { w with heap := w.heap.setIfInBounds r o }

/-- 'm[k] = v'. -/
theorem run_mapUpdate_obj {t K E : TypeId} {q : IntKind} {r : Nat} {es : List (Int × Value)} {w : World} (k : Int) (v : Value) (ht : P.underlying t = some (.map K E)) (hK : P.underlying K = some (.int q))
    (hr : w.heap[r]? = some (mapObj es)) : (Instr.mapUpdate t (.map (some r)) (.int .i64 k) v).run P w = .ok () (putB w r (mapObj (setV es k v))) := by
  have hg : (getObj r).run P w = .ok (mapObj es) w := by unfold getObj; simp [Sem.run, hr, mapObj]
  have hs : ∀ o, (setObj r o).run P w = .ok () (putB w r o) := by intro o; unfold setObj putB; simp [Sem.run, hr, mapObj]
  unfold Instr.mapUpdate
  simp only [Sem.run_bind, run_underlying ht, Result.andThen_ok, hg, mapObj, run_checkKey_int _ _ _ _ _ hK, run_findKey_ents _ _ _ _ _ hK]
  cases hl : lookI es k 0 with
  | none =>
    obtain ⟨h1, h2⟩ := lookI_none hl v 0
    simp only [hs]
    rw [h2, h1]
    simp
  | some p =>
    obtain ⟨i, u⟩ := p
    obtain ⟨_, h2⟩ := lookI_some hl v
    obtain ⟨h3, b, h4⟩ := h2 0
    have hlen : (setV es k v).length = es.length := by
      rw [setV_length, ← lookI_getV k es 0, hl]; simp
    have hkey : (((ents 0 es).toArray[i]?).map (·.key)).getD (.int .i64 k) = .int .i64 k := by
      simp only [Nat.sub_zero] at h4; simp [h4]
    simp only [hkey, Instr.keyThatStays, Instr.sameBits, beq_self_eq_true, Bool.and_self, if_true, Sem.run_bind, Sem.run_pure, Result.andThen_ok, hs]
    simp only [Nat.sub_zero] at h3
    rw [hlen, ← h3]
    simp [List.modify_toArray]
end

/-! ### slices of bytes -/

def byteV (b : UInt8) : Value := .int .u8 b.toNat

/-- The address of a slice's array, at which these bytes lie. (Where there are none it may be any.) -/
def BS (w : World) (a : Option Addr) (l : List UInt8) : Prop :=
  match a with
  | none => l = []
  | some p => ∀ (i : Nat) (h : i < l.length), w.cell? (p.add i) = some (byteV l[i])

theorem BS.cell {w : World} {b o : Nat} {l : List UInt8} (h : BS w (some ⟨b, o, none⟩) l) {i : Nat} (hi : i < l.length) : w.cell? ⟨b, o + i, none⟩ = some (byteV l[i]) := by
  have := h i hi
  rwa [Addr.add_lit] at this

theorem BS.of_block {w w' : World} {a : Option Addr} {l : List UInt8} (h : BS w a l) (hb : ∀ p, a = some p → l ≠ [] → w'.heap[p.block]? = w.heap[p.block]?) : BS w' a l := by
  cases a with
  | none => exact h
  | some p =>
    intro i hi
    have h1 := h i hi
    have h2 := hb p rfl (fun e => by rw [e] at hi; simp at hi)
    have h3 : (p.add i).block = p.block := by unfold Addr.add; split <;> rfl
    unfold World.cell? at h1 ⊢
    rw [h3] at h1 ⊢
    rw [h2]
    exact h1

/-- Where there are some, it leads into a block of cells. -/
theorem BS.row {w : World} {p : Addr} {l : List UInt8} (h : BS w (some p) l) (hl : l ≠ []) : p.spot = none ∧ ∃ cs e fz, w.heap[p.block]? = some (.cells cs e fz) := by
  have h1 := h 0 (by cases l with | nil => exact absurd rfl hl | cons x l => simp)
  rw [Addr.add_zero'] at h1
  unfold World.cell? at h1
  cases hb : w.heap[p.block]? with
  | none => rw [hb] at h1; cases h1
  | some o =>
    rw [hb] at h1
    cases o with
    | cells cs e fz =>
      simp only at h1
      split at h1
      · cases h1
      · rename_i hs
        exact ⟨by simpa using hs, cs, e, fz, rfl⟩
    | _ => cases h1

theorem BS.nil (w : World) : BS w none [] := rfl

theorem later_heap {w : World} {x : More} {k : Nat} {o : Obj} (h : w.heap[k]? = some o) : (later w x).heap[k]? = some o := by
  have hk : k < w.heap.size := (Array.getElem?_eq_some_iff.1 h).1
  unfold later
  simp only
  rw [Array.getElem?_append_left hk]
  exact h

theorem Ext.heap {w w' : World} (h : Ext w w') {k : Nat} {o : Obj} (ho : w.heap[k]? = some o) : w'.heap[k]? = some o := by
  obtain ⟨x, rfl⟩ := h
  exact later_heap ho

theorem BS.lt {w : World} {p : Addr} {l : List UInt8} (h : BS w (some p) l) (hl : l ≠ []) : p.block < w.heap.size := by
  obtain ⟨_, cs, e, fz, h1⟩ := h.row hl
  exact (Array.getElem?_eq_some_iff.1 h1).1

theorem BS.ext {w w' : World} {a : Option Addr} {l : List UInt8} (h : BS w a l) (hE : Ext w w') : BS w' a l :=
  h.of_block fun p hp hl => by
    subst hp
    obtain ⟨_, cs, e, fz, h1⟩ := h.row hl
    rw [h1]
    exact hE.heap h1

/-- The bytes as the model's own. -/
def strOf (l : List UInt8) : ByteArray := ⟨l.toArray⟩

theorem BS.cells {w : World} {p : Addr} {l : List UInt8} (h : BS w (some p) l) (j : Nat) (u : Value) (hu : (l.map byteV)[j]? = some u) : w.cell? (p.add j) = some u := by
  have hj : j < l.length := by
    have := (List.getElem?_eq_some_iff.1 hu).1
    simpa using this
  rw [h j hj]
  simpa [hj] using hu

theorem byteV_one {l : List UInt8} : ∀ u ∈ l.map byteV, u.oneCell' = true := by
  intro u hu
  obtain ⟨_, _, rfl⟩ := List.mem_map.1 hu
  rfl

/-- 'string(b)'. -/
theorem run_string_of_bytes {P : Program} {w : World} {a : Option Addr} {l : List UInt8} (c : Nat) {src e dst : TypeId} (hs : P.underlying src = some (.slice e)) (he : P.underlying e = some (.int .u8)) (hd : P.underlying dst = some .string)
    (h : BS w a l) : (convert src dst (.slice a l.length c)).run P w = .ok (.string (strOf l)) w := by
  cases a with
  | none =>
    obtain rfl : l = [] := h
    rw [run_convert_bytes_string w src dst e _ _ c hs he hd]
    simp [Conv.bytesToString, strOf]
    rfl
  | some p => exact run_convert_bytes_back w src dst e p c l hs he hd fun j hj => h.cells j _ (by simp [hj, byteV])

theorem strOf_inj {l m : List UInt8} : strOf l = strOf m ↔ l = m := by
  constructor
  · intro h
    have := congrArg (fun x : ByteArray => x.data.toList) h
    simpa [strOf] using this
  · rintro rfl; rfl

theorem strOf_beq (l m : List UInt8) : (strOf l == strOf m) = decide (l = m) := by
  show (l.toArray == m.toArray) = decide (l = m)
  rw [Bool.eq_iff_iff]
  simp

/-- Bytes of the program's own making: a row of type uint8 (number 5). -/
def BB (w : World) (a : Option Addr) (l : List UInt8) : Prop :=
  match a with
  | none => l = []
  | some p => p.spot = none ∧ ∃ cs fz, w.heap[p.block]? = some (.cells cs 5 fz) ∧ ∀ (i : Nat) (h : i < l.length), cs[p.off + i]? = some (byteV l[i])

theorem BB.bs {w : World} {a : Option Addr} {l : List UInt8} (h : BB w a l) : BS w a l := by
  cases a with
  | none => exact h
  | some p =>
    obtain ⟨hs, cs, fz, h1, h2⟩ := h
    obtain ⟨b, o, s⟩ := p
    obtain rfl : s = none := hs
    intro i hi
    rw [Addr.add_lit]
    unfold World.cell?
    simp only at h1 h2
    simp only [h1]
    simpa using h2 i hi

theorem BB.lt {w : World} {p : Addr} {l : List UInt8} (h : BB w (some p) l) : p.block < w.heap.size := by
  obtain ⟨_, cs, fz, h1, _⟩ := h
  exact (Array.getElem?_eq_some_iff.1 h1).1

theorem BB.ext {w w' : World} {a : Option Addr} {l : List UInt8} (h : BB w a l) (hE : Ext w w') : BB w' a l := by
  cases a with
  | none => exact h
  | some p => obtain ⟨hs, cs, fz, h1, h2⟩ := h; exact ⟨hs, cs, fz, hE.heap h1, h2⟩

/-- A slice of bytes that the call itself owns. -/
def OB (w : World) (base : Nat) (v : Value) (l : List UInt8) : Prop := w.ownsRow base 5 1 v l.length (l.map byteV)

theorem OB.form {w : World} {base : Nat} {v : Value} {l : List UInt8} (h : OB w base v l) : ∃ a cap, v = .slice a l.length cap ∧ BB w a l ∧ (∀ p, a = some p → base ≤ p.block) ∧ cap ≤ maxLen ∧ l.length ≤ cap := by
  obtain ⟨_, h2⟩ := h
  rcases h2 with ⟨rfl, h0⟩ | ⟨g, cap, cur, rfl, hb, hg, hn, hm, hs, ht⟩
  · have : l = [] := List.eq_nil_of_length_eq_zero h0
    subst this
    exact ⟨none, 0, rfl, rfl, (fun p hp => by cases hp), by simp [maxLen], by simp⟩
  · refine ⟨some ⟨g, 0, none⟩, cap, rfl, ⟨rfl, cur, (0, 0), hg, fun i hi => ?_⟩, (fun p hp => by cases hp; exact hb), hm, hn⟩
    have h3 : (l.map byteV)[i]? = some (byteV l[i]) := by simp [hi]
    rw [← ht, List.getElem?_take] at h3
    split at h3
    · simpa using h3
    · cases h3

theorem OB.nil (w : World) (base : Nat) : OB w base (.slice none 0 0) [] := World.ownsRow_nil w base 5 1

theorem ext_of_grown {w w' : World} (h : w.grownBy w' none) : Ext w w' := by
  obtain ⟨h1, h2, h3, h4, h5⟩ := h
  refine ⟨⟨w'.heap.extract w.heap.size w'.heap.size, w'.drawn⟩, ?_⟩
  have hh : w'.heap = w.heap ++ w'.heap.extract w.heap.size w'.heap.size := by
    refine Array.ext_getElem? fun i => ?_
    rcases Nat.lt_or_ge i w.heap.size with hi | hi
    · rw [Array.getElem?_append_left hi]; exact h5 i hi (by simp)
    · rw [Array.getElem?_append_right hi]
      simp only [Array.getElem?_extract]
      split
      · congr 1; omega
      · rw [Array.getElem?_eq_none]; omega
  cases w'
  cases w
  simp only [later] at *
  subst h1; subst h2; subst h3
  rw [← hh]

/-- 'append(b, x...)' onto a slice that the call itself owns. -/
theorem run_append_bytes {P : Program} {w : World} {base : Nat} {t ty : TypeId} {i : TypeInfo} (ht : P.underlying t = some (.slice 5)) (hi : P.info? 5 = some i) (hz : i.zero = some (.int .u8 0)) (hs : i.size = 1) (hb : i.bytes = 1)
    {v : Value} {l m : List UInt8} (hown : OB w base v l) {a : Option Addr} (c : Nat) (hsrc : BS w a m) (hlen : l.length + m.length ≤ 140737488355328) (hbase : base ≤ w.heap.size) :
    ∃ v' w', (Builtin.append_ #[t, t] ty #[v, .slice a m.length c]).run P w = .ok v' w' ∧ OB w' base v' (l ++ m) ∧ w.grownBy w' v.ownBlock := by
  cases a with
  | some p =>
    obtain ⟨v', w', h1, h2, h3, _⟩ := run_append_own (P := P) w base t ty 5 i (.int .u8 0) 1 1 ht hi hz hs hb rfl (by decide) v l.length (l.map byteV) hown p m.length c (m.map byteV) (by simp) (fun j u hu => hsrc.cells j u hu) byteV_one
      (by unfold maxLen; omega) (by omega) hbase
    refine ⟨v', w', h1, ?_, h3⟩
    unfold OB
    simpa using h2
  | none =>
    obtain rfl : m = [] := hsrc
    refine ⟨v, w, ?_, by simpa using hown, ⟨rfl, rfl, rfl, Nat.le_refl _, fun _ _ _ => rfl⟩⟩
    rcases hown.2 with ⟨rfl, _⟩ | ⟨g, cap, cur, rfl, hb, hg, hn, hm, hsz, htk⟩
    · simp [Builtin.append_, run_underlying ht, sizeOf, typeInfo, hi, Builtin.lenOf, Builtin.firstCells]
    · simp [Builtin.append_, run_underlying ht, sizeOf, typeInfo, hi, Builtin.lenOf, Builtin.firstCells, hn, storeCells]
end Go.Proofs.Ytiofkiaibcmdhaa
