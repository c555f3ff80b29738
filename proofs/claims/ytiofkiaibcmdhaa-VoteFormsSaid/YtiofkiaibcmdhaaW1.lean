import Derived.Test.YtiofkiaibcmdhaaRep
import Derived.Test.YtiofkiaibcmdhaaProg
import Derived.Maps.OwnOps
import Derived.Maps.Own
namespace Go.Proofs.Ytiofkiaibcmdhaa
open Go Go.RowKit

attribute [go_sem] Ext

theorem later_drew (w : World) (x : More) : later w.drew x = later w x := rfl
attribute [go_sem] later_drew

/-- One call in a region, on the way. -/
theorem live_step {P : Program} {ops : Array Oper} {o : Oper} {next : Act → World → World → Prop} {a : Act} {b w : World} (hw : Region.wanted o (yielded ops a.tmps) = true)
    (h : ∀ K : Act → World → Prop, (∀ a' w' b', Ext b b' → Ext b' w' → next a' b' w' → K a' w') → o.wp P a w K NoExit) : liveAt P ops o next a b w := by
  unfold liveAt
  rw [if_pos hw]
  exact h _ fun a' w' b' h1 h2 h3 => ⟨b', h1, h2, h3⟩
theorem live_skip {P : Program} {ops : Array Oper} {o : Oper} {next : Act → World → World → Prop} {a : Act} {b w : World} (hw : Region.wanted o (yielded ops a.tmps) = false)
    (h : next (a.put o.dst undef) b w) : liveAt P ops o next a b w := by
  unfold liveAt
  rw [if_neg (by rw [hw]; simp)]
  exact h

/-- 'm[k] = v', at the operation. -/
theorem wpList_update_obj {P : Program} {ops : Array Oper} {rest : List Oper} {o : Oper} {a : Act} {Q : Exit → Act → World → Prop} {w : World} (hgd : o.guard = none) (hd : o.dst = none) (m k x : Operand) (t : TypeId)
    (ho : o.op = .mapUpdate t m k x) {K E : TypeId} {q : IntKind} (ht : P.underlying t = some (.map K E)) (hK : P.underlying K = some (.int q)) (r : Nat) (es : List (Int × Value)) (j : Int) (v : Value)
    (hm : a.eval m = .map (some r)) (hk : a.eval k = .int .i64 j) (hx : a.eval x = v) (hr : w.heap[r]? = some (mapObj es))
    (h : ∀ w', w'.heap[r]? = some (mapObj (setV es j v)) → Turn [r] w w' → wpList P ops Q rest a w') : wpList P ops Q (o :: rest) a w := by
  refine wpList_plain hgd fun K' hK' => ?_
  have hrun := run_mapUpdate_obj (P := P) j v ht hK hr
  unfold Oper.wp
  simp [execOp, ho, hm, hk, hx, hrun, Result.andThen, hd, Oper.upon, Act.put]
  exact hK' _ _ (h _ (putB_same (Array.getElem?_eq_some_iff.1 hr).1) (Turn.put w r _))

theorem info5 : (Try.prog.info? 5).map (fun i => (i.zero, i.size, i.bytes)) = some (some (.int .u8 0), 1, 1) := by kernel_rfl

/-- An append of bytes, at the operation. -/
theorem wpList_append_bytes {ops : Array Oper} {rest : List Oper} {o : Oper} {a : Act} {Q : Exit → Act → World → Prop} {w : World} (hgd : o.guard = none) (s x : Operand)
    (ho : o.op = .call { callee := .builtin .append, args := #[s, x], argTypes := #[29, 29] }) (base : Nat) (v : Value) (l m : List UInt8) (hs : a.eval s = v) (hown : OB w base v l) (p : Option Addr) (n c : Nat) (hx : a.eval x = .slice p n c)
    (hn : m.length = n) (hsrc : BS w p m) (hlen : l.length + m.length ≤ 140737488355328) (hbase : base ≤ w.heap.size)
    (h : ∀ v' w', OB w' base v' (l ++ m) → w.grownBy w' v.ownBlock → wpList Try.prog ops Q rest (a.put o.dst v') w') : wpList Try.prog ops Q (o :: rest) a w := by
  refine wpList_plain hgd fun K hK => ?_
  obtain ⟨i, hi, hz, hsz, hb⟩ := info_parts info5
  subst hn
  obtain ⟨v', w', h1, h2, h3⟩ := run_append_bytes (P := Try.prog) (ty := o.type) Try.underlying29 hi hz hsz hb hown c hsrc hlen hbase
  unfold Oper.wp
  simp [execOp, ho, resolve, invoke, builtin, hs, hx, h1, Result.andThen]
  exact hK _ _ (h v' w' h2 h3)

set_option maxHeartbeats 400000 in
theorem clone_nil (n c : Nat) (w : World) : Calls Try.prog 62 #[.slice none n c] w fun e w' => e = .returned (.slice none 0 0) ∧ w = w' := by
  have e1 := fun w' => Lib.run_eql_slice_nil (P := Try.prog) w' 29 5 none n c 0 0 Try.underlying29
  go_enter Try.func62, Try.ntmps62
  go_wp2
  go_ret
  exact ⟨rfl, rfl⟩

set_option maxHeartbeats 400000 in
theorem clone_some (p : Addr) (n c : Nat) (l : List UInt8) (w : World) (hn : l.length = n) (h : BS w (some p) l) (hlen : l.length ≤ 140737488355328) :
    Calls Try.prog 62 #[.slice (some p) n c] w fun e w' => ∃ v, e = .returned v ∧ OB w' w.heap.size v l ∧ Ext w w' := by
  have e1 := fun w' => Lib.run_eql_slice_nil (P := Try.prog) w' 29 5 (some p) n c 0 0 Try.underlying29
  go_enter Try.func62, Try.ntmps62
  have hown : OB (w.alloc (.cells #[] 5)) w.heap.size (.slice (some ⟨w.heap.size, 0, none⟩) 0 0) [] := World.ownsRow_made w #[] 0 (Nat.le_refl _) (by simp [maxLen]) rfl
  have hE : Ext w (w.alloc (.cells #[] 5)) := ext_of_grown (World.grownBy_alloc w _ none)
  have hsrc : BS (w.alloc (.cells #[] 5)) (some p) l := h.ext hE
  go_wp2_with (at_builtin; refine wpList_append_bytes rfl (.tmp 5) (.tmp 6) rfl w.heap.size _ [] l rfl hown (some p) n c rfl hn hsrc (by simpa using hlen) (by simp) ?_; intro v' w' hown' hg)
  go_ret
  refine ⟨v', rfl, by simpa using hown', ?_⟩
  refine ext_of_grown ⟨hg.os, hg.tape, hg.output, Nat.le_trans (by simp) hg.size, fun k hk _ => ?_⟩
  exact (hg.block k (by simp; omega) (fun e => by have e' : k = w.heap.size := Option.some.inj e; omega)).trans (heap_alloc_old w _ hk)

/-- slices.Clone: the same bytes, in memory of the call's own. -/
theorem clone_any (a : Option Addr) (n c : Nat) (l : List UInt8) (w : World) (hn : l.length = n) (h : BS w a l) (hlen : l.length ≤ 140737488355328) :
    Calls Try.prog 62 #[.slice a n c] w fun e w' => ∃ a' c', e = .returned (.slice a' l.length c') ∧ BB w' a' l ∧ Ext w w' := by
  cases a with
  | none =>
    obtain rfl : l = [] := h
    refine (clone_nil n c w).mono ?_
    rintro e w' ⟨rfl, rfl⟩
    exact ⟨none, 0, rfl, rfl, Ext.refl _⟩
  | some p =>
    refine (clone_some p n c l w hn h hlen).mono ?_
    rintro e w' ⟨v, rfl, ho, hE⟩
    obtain ⟨a', c', rfl, hb, _⟩ := ho.form
    exact ⟨a', c', rfl, hb, hE⟩

theorem strOf_toList (l : List UInt8) : (strOf l).toList = l := by rw [ByteArray.toList_eq]; simp [strOf]

set_option maxHeartbeats 400000 in
/-- bytes.Equal. -/
theorem equal_any (a b : Option Addr) (n m c d : Nat) (l k : List UInt8) (w : World) (hn : l.length = n) (hm : k.length = m) (ha : BS w a l) (hb : BS w b k) :
    Calls Try.prog 71 #[.slice a n c, .slice b m d] w fun e w' => e = .returned (.bool (decide (l = k))) ∧ w = w' := by
  subst hn; subst hm
  have e1 := run_string_of_bytes (P := Try.prog) c Try.underlying29 Try.underlying5 Try.underlying9 ha
  have e2 := run_string_of_bytes (P := Try.prog) d Try.underlying29 Try.underlying5 Try.underlying9 hb
  go_enter Try.func71, Try.ntmps71
  go_wp2
  go_ret
  refine ⟨?_, rfl⟩
  have : ((strOf l).toList == (strOf k).toList) = decide (l = k) := by rw [strOf_toList, strOf_toList, Bool.eq_iff_iff]; simp
  rw [← this]
  rfl

set_option maxHeartbeats 400000 in
theorem quorum_any (n : Int) (w : World) (h1 : 1 ≤ n) (h2 : n ≤ 1000) : Calls Try.prog 113 #[.int .i64 n] w fun e w' => e = .returned (.int .i64 (n - (n - 1) / 3)) ∧ w = w' := by
  go_enter Try.func113, Try.ntmps113
  go_wp2
  go_ret
  exact ⟨rfl, rfl⟩

def quad (n : Int) : List UInt8 := [UInt8.ofNat (n.toNat / 16777216), UInt8.ofNat (n.toNat / 65536 % 256), UInt8.ofNat (n.toNat / 256 % 256), UInt8.ofNat (n.toNat % 256)]
theorem quad_length (n : Int) : (quad n).length = 4 := rfl
theorem byteV_ofNat (m : Nat) (h : m < 256) : byteV (UInt8.ofNat m) = .int .u8 (m : Int) := by
  unfold byteV
  rw [UInt8.toNat_ofNat']
  congr 2
  omega
theorem quad_bytes (n : Int) (h0 : 0 ≤ n) (h1 : n < 4294967296) : (quad n).map byteV = [.int .u8 (n / 16777216), .int .u8 (n / 65536 % 256), .int .u8 (n / 256 % 256), .int .u8 (n % 256)] := by
  obtain ⟨m, rfl⟩ := Int.eq_ofNat_of_zero_le h0
  simp only [quad, List.map, Int.toNat_natCast]
  rw [byteV_ofNat _ (by omega), byteV_ofNat _ (by omega), byteV_ofNat _ (by omega), byteV_ofNat _ (by omega)]
  simp
theorem bs_at {w : World} {b : Nat} {cs : Array Value} {e : TypeId} {fz : Nat × Nat} {l : List UInt8} (hb : w.heap[b]? = some (.cells cs e fz)) (h : l.map byteV = cs.toList) : BS w (some ⟨b, 0, none⟩) l := by
  intro i hi
  rw [Addr.add_lit]
  have : (l.map byteV)[i]? = some (byteV l[i]) := by simp [hi]
  rw [h] at this
  unfold World.cell?
  simp only [hb]
  simpa using this
theorem bs_new (w : World) (cs : Array Value) (e : TypeId) (l : List UInt8) (h : l.map byteV = cs.toList) : BS (w.alloc (.cells cs e)) (some ⟨w.heap.size, 0, none⟩) l :=
  bs_at (heap_alloc_new w _) h
theorem quad_bs (w : World) (n : Int) (h0 : 0 ≤ n) (h1 : n < 4294967296) : BS (w.alloc (.cells #[.int .u8 (n / 16777216), .int .u8 (n / 65536 % 256), .int .u8 (n / 256 % 256), .int .u8 (n % 256)] 5)) (some ⟨w.heap.size, 0, none⟩) (quad n) :=
  bs_new w _ 5 _ (quad_bytes n h0 h1)
theorem grown_alloc {w w' : World} {o : Obj} {row : Option Nat} (h : (w.alloc o).grownBy w' row) : w.grownBy w' row :=
  ⟨h.os, h.tape, h.output, Nat.le_trans (by simp) h.size, fun k hk hr => (h.block k (by simp; omega) hr).trans (heap_alloc_old w o hk)⟩

set_option maxHeartbeats 400000 in
/-- four: a number as four bytes behind what the call owns. -/
theorem four_any (n : Int) (base : Nat) (v : Value) (l : List UInt8) (w : World) (hown : OB w base v l) (h0 : 0 ≤ n) (h1 : n < 4294967296) (hlen : l.length ≤ 70368744177664) (hb : base ≤ w.heap.size) :
    Calls Try.prog 58 #[v, .int .i64 n] w fun e w' => ∃ v', e = .returned v' ∧ OB w' base v' (l ++ quad n) ∧ w.grownBy w' v.ownBlock := by
  obtain ⟨a, c, rfl, hbb, hpb, hcm, hlc⟩ := hown.form
  go_enter Try.func58, Try.ntmps58
  have hE : ∀ o, Ext w (w.alloc o) := fun o => ext_of_grown (World.grownBy_alloc w o none)
  go_wp2_with (at_builtin; refine wpList_append_bytes rfl (.tmp 5) (.tmp 17) rfl base _ l (quad n) rfl (hown.alloc _) (some ⟨w.heap.size, 0, none⟩) 4 4 rfl (quad_length n) (quad_bs w n h0 h1) (by rw [quad_length]; omega) (by simp; omega) ?_; intro v' w' hown' hg)
  go_ret
  exact ⟨v', rfl, hown', grown_alloc hg⟩
end Go.Proofs.Ytiofkiaibcmdhaa
