import Derived.Test.YtiofkiaibcmdhaaSays
namespace Go.Proofs.Ytiofkiaibcmdhaa
open Go Go.RowKit

/-- A core that has heard nothing. -/
def St.fresh (n me slot : Int) : St := ⟨n, me, slot, 0, false, [], [], [], [], [], [], [], -1, [], false, []⟩

theorem run_equalIn_func_nil (w : World) (f d : Nat) : (Op.equalIn (d + 1) 28 (.func (.func f) #[] #[]) .nilFunc).run Try.prog w = .ok false w := by
  simp [Op.equalIn, run_underlying Try.underlying28]
theorem run_eql_func_nil (w : World) (f : Nat) : (binOp .eql 28 (.func (.func f) #[] #[]) .nilFunc).run Try.prog w = .ok (.bool false) w := by
  simp only [binOp]
  simp [Op.equal, Op.maxDepth, run_equalIn_func_nil w f 9999]

set_option maxRecDepth 100000 in
set_option maxHeartbeats 1000000 in
theorem new_of (fa : Nat) (n me slot : Int) (w : World) (hn : 4 ≤ n ∧ n ≤ 64) (hm : 1 ≤ me ∧ me ≤ n) (hs : 0 ≤ slot ∧ slot ≤ 256) :
    Calls Try.prog 14 #[.int .i64 n, .int .i64 me, .int .i64 slot, .func (.func fa) #[] #[]] w fun e w' => ∃ b fp, e = .returned (.pointer (some ⟨b, 0, none⟩)) ∧ CoreAt fa w' b fp (St.fresh n me slot) ∧ Ext w w' ∧ ∀ k ∈ fp, w.heap.size ≤ k := by
  have hmm := @run_makeMap Try.prog
  have hfn := run_eql_func_nil w fa
  have g1 : decide (n < 4) = false := decide_eq_false (by omega)
  have g2 : decide (64 < n) = false := decide_eq_false (by omega)
  have g3 : decide (me < 1) = false := decide_eq_false (by omega)
  have g4 : decide (n < me) = false := decide_eq_false (by omega)
  have g5 : decide (slot < 0) = false := decide_eq_false (by omega)
  have g6 : decide (256 < slot) = false := decide_eq_false (by omega)
  go_enter Try.func14, Try.ntmps14
  go_wp2_with fail
  go_ret
  obtain ⟨n0, hn0⟩ : ∃ n0, w.heap.size = n0 := ⟨_, rfl⟩
  have al : ∀ (W : World) (o : Obj), Ext W (W.alloc o) := fun W o => ext_of_grown (World.grownBy_alloc W o none)
  obtain ⟨w1, h1⟩ : ∃ w1, w.alloc (Obj.map #[] 0) = w1 := ⟨_, rfl⟩
  rw [h1]
  obtain ⟨w2, h2⟩ : ∃ w2, w1.alloc (Obj.map #[] 0) = w2 := ⟨_, rfl⟩
  rw [h2]
  obtain ⟨w3, h3⟩ : ∃ w3, w2.alloc (Obj.map #[] 0) = w3 := ⟨_, rfl⟩
  rw [h3]
  obtain ⟨w4, h4⟩ : ∃ w4, w3.alloc (Obj.map #[] 0) = w4 := ⟨_, rfl⟩
  rw [h4]
  obtain ⟨w5, h5⟩ : ∃ w5, w4.alloc (Obj.map #[] 0) = w5 := ⟨_, rfl⟩
  rw [h5]
  obtain ⟨w6, h6⟩ : ∃ w6, w5.alloc (Obj.map #[] 0) = w6 := ⟨_, rfl⟩
  rw [h6, hn0]
  have s1 : w1.heap.size = n0 + 1 := by rw [← h1, World.size_alloc, hn0]
  have s2 : w2.heap.size = n0 + 1 + 1 := by rw [← h2, World.size_alloc, s1]
  have s3 : w3.heap.size = n0 + 1 + 1 + 1 := by rw [← h3, World.size_alloc, s2]
  have s4 : w4.heap.size = n0 + 1 + 1 + 1 + 1 := by rw [← h4, World.size_alloc, s3]
  have s5 : w5.heap.size = n0 + 1 + 1 + 1 + 1 + 1 := by rw [← h5, World.size_alloc, s4]
  have s6 : w6.heap.size = n0 + 1 + 1 + 1 + 1 + 1 + 1 := by rw [← h6, World.size_alloc, s5]
  obtain ⟨W, hW⟩ : ∃ W, w6.alloc (Obj.cells (coreCells fa (St.fresh n me slot) ⟨n0, n0 + 1, n0 + 1 + 1, n0 + 1 + 1 + 1, n0 + 1 + 1 + 1 + 1, n0 + 1 + 1 + 1 + 1 + 1, none, none, none, 0, 0, 0⟩) 110) = W := ⟨_, rfl⟩
  have e7 : Ext w6 W := by rw [← hW]; exact al _ _
  have e6 : Ext w5 W := Ext.trans (by rw [← h6]; exact al _ _) e7
  have e5 : Ext w4 W := Ext.trans (by rw [← h5]; exact al _ _) e6
  have e4 : Ext w3 W := Ext.trans (by rw [← h4]; exact al _ _) e5
  have e3 : Ext w2 W := Ext.trans (by rw [← h3]; exact al _ _) e4
  have e2 : Ext w1 W := Ext.trans (by rw [← h2]; exact al _ _) e3
  have e1 : Ext w W := Ext.trans (by rw [← h1]; exact al _ _) e2
  have b1 : W.heap[n0]? = some (mapObj []) := e2.heap (by rw [← h1, ← hn0]; exact heap_alloc_new w _)
  have b2 : W.heap[n0 + 1]? = some (mapObj []) := e3.heap (by rw [← h2, ← s1]; exact heap_alloc_new w1 _)
  have b3 : W.heap[n0 + 1 + 1]? = some (mapObj []) := e4.heap (by rw [← h3, ← s2]; exact heap_alloc_new w2 _)
  have b4 : W.heap[n0 + 1 + 1 + 1]? = some (mapObj []) := e5.heap (by rw [← h4, ← s3]; exact heap_alloc_new w3 _)
  have b5 : W.heap[n0 + 1 + 1 + 1 + 1]? = some (mapObj []) := e6.heap (by rw [← h5, ← s4]; exact heap_alloc_new w4 _)
  have b6 : W.heap[n0 + 1 + 1 + 1 + 1 + 1]? = some (mapObj []) := e7.heap (by rw [← h6, ← s5]; exact heap_alloc_new w5 _)
  have b7 : W.heap[n0 + 1 + 1 + 1 + 1 + 1 + 1]? = some (.cells (coreCells fa (St.fresh n me slot) ⟨n0, n0 + 1, n0 + 1 + 1, n0 + 1 + 1 + 1, n0 + 1 + 1 + 1 + 1, n0 + 1 + 1 + 1 + 1 + 1, none, none, none, 0, 0, 0⟩) 110) := by rw [← hW, ← s6]; exact heap_alloc_new w6 _
  refine ⟨n0 + 1 + 1 + 1 + 1 + 1 + 1, _, rfl, ⟨⟨n0, n0 + 1, n0 + 1 + 1, n0 + 1 + 1 + 1, n0 + 1 + 1 + 1 + 1, n0 + 1 + 1 + 1 + 1 + 1, none, none, none, 0, 0, 0⟩, [], [], [], rfl, ?_⟩, hW ▸ e1, ?_⟩
  · refine Eq.mp (congrArg (fun X => CoreIn fa X _ _ _ _ _ _) (Eq.symm (hW : w6.alloc (Obj.cells #[.int .i64 n, .int .i64 me, .int .i64 slot, .func (.func fa) #[] #[], .int .i64 0, .slice none 0 0, .bool false, .map (some n0), .map (some (n0 + 1)), .map (some (n0 + 1 + 1)), .map (some (n0 + 1 + 1 + 1)), .map (some (n0 + 1 + 1 + 1 + 1)), .map (some (n0 + 1 + 1 + 1 + 1 + 1)), .int .i64 (-1), .slice none 0 0, .bool false, .slice none 0 0] 110) = W))) ?_
    exact ⟨b7, ⟨[], b1, trivial⟩, ⟨[], b2, trivial, rfl⟩, ⟨[], b3, trivial, rfl⟩, ⟨[], b4, trivial, rfl⟩, ⟨[], b5, trivial⟩, ⟨[], b6, trivial⟩, rfl, rfl, rfl, by simp [foot]; omega⟩
  · intro k hk
    simp only [foot, List.append_nil, List.mem_cons, List.not_mem_nil, or_false] at hk
    omega

theorem fresh_ok {n me slot : Int} (hn : 4 ≤ n ∧ n ≤ 64) (hm : 1 ≤ me ∧ me ≤ n) (hs : 0 ≤ slot ∧ slot ≤ 256) : (St.fresh n me slot).Ok where
  n := hn
  me := hm
  slot := hs
  view := by simp [St.fresh]
  wish := by simp [St.fresh]
  props := by simp [St.fresh]
  preps := ⟨List.nodup_nil, fun _ _ h => by cases h⟩
  comms := ⟨List.nodup_nil, fun _ _ h => by cases h⟩
  turns := ⟨List.nodup_nil, fun _ _ h => by cases h⟩
  seen := by simp [St.fresh]
  decs := ⟨List.nodup_nil, fun _ _ h => by cases h⟩
  lock := by simp [St.fresh]
  locked := by simp [St.fresh]
  value := by simp [St.fresh]
end Go.Proofs.Ytiofkiaibcmdhaa
