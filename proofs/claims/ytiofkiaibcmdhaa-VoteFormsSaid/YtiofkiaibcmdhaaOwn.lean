import Derived.Test.YtiofkiaibcmdhaaGrown
import Derived.Test.YtiofkiaibcmdhaaSegG
namespace Go.Proofs.Ytiofkiaibcmdhaa
open Go Go.RowKit

/-- Where the slice lies behind an append: where it lay, or in the next block. -/
theorem append_bytes_at {w w' : World} {base : Nat} {ty : TypeId} {v v' : Value} {l m : List UInt8} (hown : OB w base v l) {a : Option Addr} {c : Nat} (hsrc : BS w a m) (hlen : l.length + m.length ≤ 140737488355328)
    (hrun : (Builtin.append_ #[29, 29] ty #[v, .slice a m.length c]).run Try.prog w = .ok v' w') : ∀ g, v'.ownBlock = some g → v.ownBlock = some g ∨ w.heap.size ≤ g := by
  obtain ⟨i, hi, hz, hsz, hby⟩ := info_parts info5
  have ht := Try.underlying29
  have hl1 : (l.map byteV).length = l.length * i.size := by rw [hsz]; simp
  have hm1 : (m.map byteV).length = m.length * i.size := by rw [hsz]; simp
  cases a with
  | none =>
    obtain rfl : m = [] := hsrc
    have : (Builtin.append_ #[29, 29] ty #[v, .slice none 0 c]).run Try.prog w = .ok v w := by
      rcases hown.2 with ⟨rfl, _⟩ | ⟨g, cap, cur, rfl, hb, hg, hn, hm, hs, htk⟩
      · simp [Builtin.append_, run_underlying ht, sizeOf, typeInfo, hi, Builtin.lenOf, Builtin.firstCells]
      · simp [Builtin.append_, run_underlying ht, sizeOf, typeInfo, hi, Builtin.lenOf, Builtin.firstCells, hn, storeCells]
    simp only [List.length_nil] at hrun
    rw [this] at hrun
    injection hrun with h1 h2
    subst h1
    exact fun g hg => .inl hg
  | some p =>
    have hnews : ∀ j u, (m.map byteV)[j]? = some u → w.cell? (p.add j) = some u := fun j u hu => hsrc.cells j u hu
    rcases hown.2 with ⟨rfl, h0⟩ | ⟨g, cap, cur, rfl, hb, hg, hn, hm, hs, htk⟩
    · by_cases hmz : m.length = 0
      · obtain rfl : m = [] := List.eq_nil_of_length_eq_zero hmz
        have : (Builtin.append_ #[29, 29] ty #[.slice none 0 0, .slice (some p) 0 c]).run Try.prog w = .ok (.slice none 0 0) w := by
          simp [Builtin.append_, run_underlying ht, sizeOf, typeInfo, hi, Builtin.lenOf, Builtin.firstCells, loadCells, loadCellsFrom]
        simp only [List.length_nil] at hrun
        rw [this] at hrun
        injection hrun with h1 h2
        subst h1
        exact fun g hg => by cases hg
      · have := run_append_nil (P := Try.prog) w 29 ty 5 i (.int .u8 0) ht hi hz p m.length c (m.map byteV) hm1 hnews (by omega) (by omega) (by rw [hby]; omega)
        rw [this] at hrun
        injection hrun with h1 h2
        subst h1
        exact fun g hg => .inr (by have : w.heap.size = g := by simpa [Value.ownBlock] using hg
                                   omega)
    · by_cases hroom : l.length + m.length ≤ cap
      · have := run_append_room (P := Try.prog) w 29 ty 5 i ht hi g l.length cap cur hg p m.length c (m.map byteV) hm1 hnews byteV_one hroom (by rw [hm1, hsz, hs]; omega)
        rw [this] at hrun
        injection hrun with h1 h2
        subst h1
        exact fun g' hg' => .inl (by simpa [Value.ownBlock] using hg')
      · have holds : ∀ j u, (l.map byteV)[j]? = some u → w.cell? ((⟨g, 0, none⟩ : Addr).add j) = some u := World.ownsRow.cells hown (g := g) rfl
        have := run_append_grow (P := Try.prog) w 29 ty 5 i (.int .u8 0) ht hi hz ⟨g, 0, none⟩ l.length cap (l.map byteV) hl1 holds p m.length c (m.map byteV) hm1 hnews (by omega) (by omega) (growslice_fits (by omega) (by rw [hby]; omega))
        rw [this] at hrun
        injection hrun with h1 h2
        subst h1
        exact fun g' hg' => .inr (by have : w.heap.size = g' := by simpa [Value.ownBlock] using hg'
                                     omega)
/-- An append of bytes, at the operation, and where the slice lies. -/
theorem wpList_append_bytes_at {ops : Array Oper} {rest : List Oper} {o : Oper} {a : Act} {Q : Exit → Act → World → Prop} {w : World} (hgd : o.guard = none) (s x : Operand)
    (ho : o.op = .call { callee := .builtin .append, args := #[s, x], argTypes := #[29, 29] }) (base : Nat) (v : Value) (l m : List UInt8) (hs : a.eval s = v) (hown : OB w base v l) (p : Option Addr) (n c : Nat) (hx : a.eval x = .slice p n c)
    (hn : m.length = n) (hsrc : BS w p m) (hlen : l.length + m.length ≤ 140737488355328) (hbase : base ≤ w.heap.size)
    (h : ∀ v' w', OB w' base v' (l ++ m) → w.grownBy w' v.ownBlock → (∀ g, v'.ownBlock = some g → v.ownBlock = some g ∨ w.heap.size ≤ g) → wpList Try.prog ops Q rest (a.put o.dst v') w') : wpList Try.prog ops Q (o :: rest) a w := by
  refine wpList_plain hgd fun K hK => ?_
  obtain ⟨i, hi, hz, hsz, hb⟩ := info_parts info5
  subst hn
  obtain ⟨v', w', h1, h2, h3⟩ := run_append_bytes (P := Try.prog) (ty := o.type) Try.underlying29 hi hz hsz hb hown c hsrc hlen hbase
  have h4 := append_bytes_at hown hsrc hlen h1
  unfold Oper.wp
  simp [execOp, ho, resolve, invoke, builtin, hs, hx, h1, Result.andThen]
  exact hK _ _ (h v' w' h2 h3 h4)

set_option maxHeartbeats 400000 in
/-- four: a number as four bytes behind what the call owns, and where it lies. -/
theorem four_at (n : Int) (base : Nat) (v : Value) (l : List UInt8) (w : World) (hown : OB w base v l) (h0 : 0 ≤ n) (h1 : n < 4294967296) (hlen : l.length ≤ 70368744177664) (hb : base ≤ w.heap.size) :
    Calls Try.prog 58 #[v, .int .i64 n] w fun e w' => ∃ v', e = .returned v' ∧ OB w' base v' (l ++ quad n) ∧ w.grownBy w' v.ownBlock ∧ ∀ g, v'.ownBlock = some g → v.ownBlock = some g ∨ w.heap.size < g := by
  obtain ⟨a, c, rfl, hbb, hpb, hcm, hlc⟩ := hown.form
  go_enter Try.func58, Try.ntmps58
  have hE : ∀ o, Ext w (w.alloc o) := fun o => ext_of_grown (World.grownBy_alloc w o none)
  go_wp2_with (at_builtin; refine wpList_append_bytes_at rfl (.tmp 5) (.tmp 17) rfl base _ l (quad n) rfl (hown.alloc _) (some ⟨w.heap.size, 0, none⟩) 4 4 rfl (quad_length n) (quad_bs w n h0 h1) (by rw [quad_length]; omega) (by simp; omega) ?_; intro v' w' hown' hg hat)
  go_ret
  refine ⟨v', rfl, hown', grown_alloc hg, fun g hgg => ?_⟩
  rcases hat g hgg with h2 | h2
  · exact .inl h2
  · exact .inr (by simp at h2; omega)

/-- What lay in u below A, or at or beyond B, lies still. -/
structure Kept (A B : Nat) (u w : World) : Prop where
  os : w.os = u.os
  tape : w.tape = u.tape
  output : w.output = u.output
  size : u.heap.size ≤ w.heap.size
  block : ∀ (k : Nat) (o : Obj), u.heap[k]? = some o → (k < A ∨ B ≤ k) → w.heap[k]? = some o
theorem Kept.refl (A B : Nat) (u : World) : Kept A B u u := ⟨rfl, rfl, rfl, Nat.le_refl _, fun _ _ h _ => h⟩
theorem Kept.grown {A B : Nat} {u w w' : World} {row : Option Nat} (h : Kept A B u w) (hg : w.grownBy w' row) (hr : ∀ r, row = some r → A ≤ r ∧ (r < B ∨ u.heap.size ≤ r)) : Kept A B u w' :=
  ⟨hg.os.trans h.os, hg.tape.trans h.tape, hg.output.trans h.output, Nat.le_trans h.size hg.size, fun k o ho hk => by
    have h1 := h.block k o ho hk
    refine (hg.block k (Array.getElem?_eq_some_iff.1 h1).1 fun e => ?_).trans h1
    have := hr k e.symm
    have := (Array.getElem?_eq_some_iff.1 ho).1
    omega⟩
theorem Kept.ext {A B : Nat} {u w w' : World} (h : Kept A B u w) (hE : Ext w w') : Kept A B u w' :=
  ⟨(hE.turn []).os.trans h.os, (hE.turn []).tape.trans h.tape, (hE.turn []).output.trans h.output, Nat.le_trans h.size hE.size, fun k o ho hk => hE.heap (h.block k o ho hk)⟩

end Go.Proofs.Ytiofkiaibcmdhaa
