import Derived.Test.YtiofkiaibcmdhaaA2
import Derived.RangeFuncNested
import Derived.RangeFuncBound
import Derived.RangeFuncCalls
import Derived.RangeFuncLeaves
import Derived.Shelf.Abstract
import Derived.Shelf.RegionOpen
import Derived.OwnWalkIn
import Derived.TacticsInMore
import Derived.LoopNIn
import Derived.LoopIn
namespace Go.Proofs.Ytiofkiaibcmdhaa
open Go Go.RowKit Go.Shelf Go.Proofs

/-- What slices.Backward gives. -/
def rev (xs : List Int) : List (Int × Int) := (List.range xs.length).reverse.map fun (i : Nat) => ((i : Int), xs.getD i 0)
theorem rev_length (xs : List Int) : (rev xs).length = xs.length := by simp [rev]
theorem rev_get (xs : List Int) {k : Nat} (h : k < xs.length) : (rev xs)[k]? = some (((xs.length - 1 - k : Nat) : Int), xs.getD (xs.length - 1 - k) 0) := by
  unfold rev
  rw [List.getElem?_map, List.getElem?_reverse (by simpa using h)]
  rw [List.length_range, List.getElem?_range (by omega)]
  simp

def intOf : Value → Int
  | .int _ n => n
  | _ => 0

set_option maxRecDepth 100000 in
set_option maxHeartbeats 1000000 in
theorem back1_in (n : Nat) (hn : 1 ≤ n) (l Bn n₀ : Nat) (a : Option Addr) (c : Nat) (xs : List Int) (J Jx : List (Int × Int) → World → Prop)
    (hY : ∀ pre x W, J pre W → pre.length < xs.length → YieldAt Fence.wide (n - 1) Try.prog l #[.int .i64 x.1, .int .i64 x.2] W fun e W' =>
      (e = .returned (.bool true) ∧ J (pre ++ [x]) W' ∧ Below n₀ W W') ∨ (e = .returned (.bool false) ∧ Jx (pre ++ [x]) W'))
    (W : World) (hBn : W.cell? ⟨Bn, 0, none⟩ = some (.slice a xs.length c)) (hBl : Bn < n₀) (hI : IS W a xs) (ha : ∀ p, a = some p → p.block < n₀) (h0 : J [] W) (hlen : xs.length ≤ 10000000) :
    CallsIn Fence.wide n Try.prog 138 #[.func (.yield l) #[] #[], .pointer (some ⟨Bn, 0, none⟩)] W fun e W' => (∃ v, e = .returned v) ∧
      ((∃ ys, ys = rev xs ∧ J ys W') ∨ (∃ pre, pre <+: rev xs ∧ Jx pre W')) := by
  refine callsIn_of_wp Try.func138 rfl trivial ?_ rfl
  simp only [Try.ntmps138, List.size_toArray, List.length_cons, List.length_nil, Nat.reduceAdd, Nat.reduceSub, Array.replicate_succ, Array.replicate_zero, List.push_toArray, List.append_toArray, List.nil_append, List.cons_append]
  gi_wp2
  gi_loopw [3] (fun v wr => ∃ k : Nat, v = .int .i64 ((xs.length : Int) - 1 - k) ∧ k ≤ xs.length ∧ J ((rev xs).take k) wr ∧ Below n₀ W wr)
    (fun v wr => (intOf v + 1).toNat)
  case atStart => exact ⟨0, by simp, by omega, h0, Below.refl _ _⟩
  case round =>
    obtain ⟨k, rfl, hk, hJ, hB⟩ := hrel
    by_cases hlt : k < xs.length
    · obtain ⟨p, rfl⟩ : ∃ p, a = some p := by
        cases a with
        | none => have h0 : xs = [] := hI; subst h0; simp at hlt
        | some p => exact ⟨p, rfl⟩
      obtain ⟨pb, po, ps⟩ := p
      obtain rfl : ps = none := hI.1
      have hc := (hB.cell (p := ⟨Bn, 0, none⟩) hBl).trans hBn
      have hx : xs[xs.length - 1 - k]? = some (xs.getD (xs.length - 1 - k) 0) := by
        rw [List.getElem?_eq_getElem (by omega), List.getD, List.getElem?_eq_getElem (by omega)]; rfl
      have hc2 : wr.cell? ⟨pb, po + (xs.length - 1 - k), none⟩ = some (.int .i64 (xs.getD (xs.length - 1 - k) 0)) := (hB.cell (p := ⟨pb, po + (xs.length - 1 - k), none⟩) (ha ⟨pb, po, none⟩ rfl)).trans (hI.cell hx)
      have hrk := rev_get xs hlt
      obtain ⟨i, hi⟩ : ∃ i, xs.length - 1 - k = i := ⟨_, rfl⟩
      rw [hi] at hc2 hrk hx
      have hii : (xs.length : Int) - 1 - k = (i : Int) := by omega
      rw [hii]
      obtain ⟨x, hxx⟩ : ∃ x, xs.getD i 0 = x := ⟨_, rfl⟩
      rw [hxx] at hc2 hrk
      have hlen2 : i < xs.length := by omega
      obtain ⟨fn, tmps, assign, body, hy, hR⟩ := hY _ ((i : Int), x) wr hJ (by rw [List.length_take, rev_length]; omega)
      dsimp only at hy
      gi_wp2
      refine hR.mono ?_
      rintro e W2 (⟨rfl, hJ2, hB2⟩ | ⟨rfl, hJx⟩)
      · gi_wp2
        go_roundw
        case rel => exact ⟨k + 1, by congr 1; omega, by omega, by rw [List.take_add_one, hrk]; exact hJ2, hB.trans hB2⟩
        case measure => simp only [intOf]; omega
      · gi_wp2
        (try simp only [Exit.inBlock, Exit.then])
        refine bodyPost_ret (results_none rfl _ _ _) rfl ?_
        refine ⟨⟨_, rfl⟩, .inr ⟨_, ?_, hJx⟩⟩
        have : (rev xs).take k ++ [((i : Int), x)] = (rev xs).take (k + 1) := by rw [List.take_add_one, hrk]; rfl
        rw [this]
        exact List.take_prefix _ _
    · gi_wp2
      go_end0
      refine ⟨⟨_, rfl⟩, .inl ⟨_, rfl, ?_⟩⟩
      rw [List.take_of_length_le (by rw [rev_length]; omega)] at hJ
      exact hJ
end Go.Proofs.Ytiofkiaibcmdhaa
