import Derived.Test.YtiofkiaibcmdhaaFew
namespace Go.Proofs.Ytiofkiaibcmdhaa
open Go Go.RowKit

theorem wrapU_range (z : Int) : 0 ≤ IntKind.u64.wrap z ∧ IntKind.u64.wrap z < 18446744073709551616 := by
  have h : IntKind.u64.wrap z = z % 18446744073709551616 := by
    simp [IntKind.wrap]
    try rfl
  rw [h]
  omega
theorem wrap64_small {z : Int} (h0 : -9223372036854775808 ≤ z) (h1 : z ≤ 9223372036854775807) : wrap64 z = z := by
  unfold wrap64
  omega
theorem umod_range (z : Int) {k : Int} (hk : 0 < k) : 0 ≤ (IntKind.u64.wrap z).tmod k ∧ (IntKind.u64.wrap z).tmod k < k := by
  have h := wrapU_range z
  rw [Int.tmod_eq_emod_of_nonneg h.1]
  exact ⟨Int.emod_nonneg _ (by omega), Int.emod_lt_of_pos _ hk⟩
theorem wrapU_small {z : Int} (h0 : 0 ≤ z) (h1 : z < 18446744073709551616) : IntKind.u64.wrap z = z := by
  have h : IntKind.u64.wrap z = z % 18446744073709551616 := by
    simp [IntKind.wrap]
    try rfl
  rw [h]
  omega
/-- 'a + int(uint(z) % k)'. -/
theorem umod_plus (a z : Int) {k : Int} (hk : 0 < k) (hk2 : k ≤ 100000) (ha : 0 ≤ a) (ha2 : a ≤ 100000) : ∃ m, wrap64 (a + wrap64 ((IntKind.u64.wrap z).tmod k)) = m ∧ a ≤ m ∧ m < a + k := by
  have h := umod_range z hk
  refine ⟨a + (IntKind.u64.wrap z).tmod k, ?_, by omega, by omega⟩
  rw [wrap64_small (z := (IntKind.u64.wrap z).tmod k) (by omega) (by omega), wrap64_small (by omega) (by omega)]
theorem umod_bare (z : Int) {k : Int} (hk : 0 < k) (hk2 : k ≤ 100000) : ∃ m, wrap64 ((IntKind.u64.wrap z).tmod k) = m ∧ 0 ≤ m ∧ m < k := by
  have h := umod_range z hk
  exact ⟨(IntKind.u64.wrap z).tmod k, wrap64_small (by omega) (by omega), h.1, h.2⟩
theorem info3 : (Try.prog.info? 3).map (fun i => (i.zero, i.size, i.bytes)) = some (some (.int .i64 0), 1, 8) := by kernel_rfl

theorem run_eq35 (w : World) (a b c x y z : Int) : (Op.equalIn 10000 35 (.agg #[.int .i64 a, .int .i64 b, .int .i64 c]) (.agg #[.int .i64 x, .int .i64 y, .int .i64 z])).run Try.prog w = .ok (a == x && (b == y && c == z)) w := by
  obtain ⟨i, hi, hz, hsz, hby⟩ := info_parts info3
  have hI : ∀ p q : Int, (Op.equalIn 9999 3 (.int .i64 p) (.int .i64 q)).run Try.prog w = .ok (p == q) w := fun p q => run_equalIn_int w 9998 3 .i64 .i64 p q Try.underlying3
  have hag : (isAgg 3).run Try.prog w = .ok false w := by unfold isAgg; simp [run_underlying Try.underlying3]
  have hp : ∀ (xs : Array Value) (k : Nat) (v : Value), xs[k]? = some v → (part 3 xs k).run Try.prog w = .ok v w := fun xs k v hv => by
    unfold part
    simp [hag, hv]
  show (Op.equalIn (9999 + 1) 35 _ _).run Try.prog w = _
  have e3 : List.range' 0 3 = [0, 1, 2] := by decide
  unfold Op.equalIn
  simp only [Sem.run_bind, run_underlying Try.underlying35, Result.andThen_ok, sizeOf, typeInfo, Sem.run_pure, run_program, hi, hsz]
  rw [Std.Legacy.Range.forIn_eq_forIn_range']
  simp only [Std.Legacy.Range.size, e3]
  have p0 : ∀ u v t : Int, (part 3 #[.int .i64 u, .int .i64 v, .int .i64 t] 0).run Try.prog w = .ok (.int .i64 u) w := fun u v t => hp _ 0 _ rfl
  have p1 : ∀ u v t : Int, (part 3 #[.int .i64 u, .int .i64 v, .int .i64 t] 1).run Try.prog w = .ok (.int .i64 v) w := fun u v t => hp _ 1 _ rfl
  have p2 : ∀ u v t : Int, (part 3 #[.int .i64 u, .int .i64 v, .int .i64 t] 2).run Try.prog w = .ok (.int .i64 t) w := fun u v t => hp _ 2 _ rfl
  cases h1 : (a == x) <;> cases h2 : (b == y) <;> cases h3 : (c == z) <;> simp [Sem.run_bind, p0, p1, p2, hI, h1, h2, h3]
theorem run_index35 (w : World) (a b c : Int) : (Instr.index 35 (.agg #[.int .i64 a, .int .i64 b, .int .i64 c]) (.int .i64 0)).run Try.prog w = .ok (.int .i64 a) w := by
  obtain ⟨i, hi, hz, hsz, hby⟩ := info_parts info3
  unfold Instr.index
  simp [run_underlying Try.underlying35, sizeOf, typeInfo, hi, hsz, part, asIntOf]
end Go.Proofs.Ytiofkiaibcmdhaa
