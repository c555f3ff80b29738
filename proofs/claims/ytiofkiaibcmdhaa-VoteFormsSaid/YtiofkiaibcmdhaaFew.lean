import Derived.Test.YtiofkiaibcmdhaaRead
import Derived.Test.YtiofkiaibcmdhaaLives
namespace Go.Proofs.Ytiofkiaibcmdhaa
open Go Go.RowKit

def actSmall (y : ActD) : Bool := decide (y.value.length ≤ 100) && decide (y.v.value.length ≤ 100)
def fewActs (ys : List ActD) : Bool := decide (ys.length ≤ 100) && ys.all actSmall

theorem all_take_false {α : Type} {p : α → Bool} {l : List α} {i : Nat} {x : α} (hi : l[i]? = some x) (hp : p x = false) : l.all p = false := by
  rw [List.all_eq_false]
  exact ⟨x, List.mem_of_getElem? hi, by simp [hp]⟩
theorem all_snoc {α : Type} {p : α → Bool} {l : List α} {i : Nat} {x : α} (hi : l[i]? = some x) (hp : p x = true) (h : (l.take i).all p = true) : (l.take (i + 1)).all p = true := by
  rw [List.take_add_one, hi, List.all_append, h]
  simp [hp]

set_option maxRecDepth 100000 in
set_option maxHeartbeats 2000000 in
theorem few_of (a : Option Addr) (c n : Nat) (ys : List ActD) (w : World) (h : ActsAt w a ys) (hn : ys.length = n) : Calls Try.prog 13 #[.slice a n c] w fun e w' => e = .returned (.bool (fewActs ys)) ∧ Ext w w' := by
  have hlen := h.len
  by_cases hle : n ≤ 100
  · go_enter Try.func13, Try.ntmps13
    go_wp2_with fail
    go_loopw [10] (fun v10 wr => ∃ i : Nat, v10 = .int .i64 i ∧ i ≤ n ∧ Ext w wr ∧ (ys.take i).all actSmall = true) (fun v _ => n - (intOf v).toNat)
    case atStart => exact ⟨0, rfl, by omega, Ext.refl _, rfl⟩
    case round =>
      obtain ⟨i, rfl, hi, hE, hall⟩ := hrel
      by_cases hlt : i < n
      · obtain ⟨y, hy⟩ : ∃ y, ys[i]? = some y := ⟨_, List.getElem?_eq_getElem (by omega)⟩
        obtain ⟨b, o, rfl, hrg⟩ := (h.ext hE).at hy
        have hya := (h.ext hE).each y (List.mem_of_getElem? hy)
        obtain ⟨k, ⟨vk, vf, vs, vv, vd, vl⟩, va, vc, xl, xa, xc⟩ := y
        have hrg2 : wr.rangeAt b (o + i * 8) [.int .i64 k, .int .i64 vk, .int .i64 vf, .int .i64 vs, .int .i64 vv, .int .i64 vd, .slice va vl.length vc, .slice xa xl.length xc] := hrg
        have hvl := hya.vl
        have hxl := hya.xl
        simp only at hvl hxl
        clear hrg hya
        unfold maxLen at hvl hxl
        by_cases hx : xl.length ≤ 100
        · by_cases hv : vl.length ≤ 100
          · go_wp2_with (refine wpList_load_mid rfl 33 (.tmp 12) rfl b (o + i * 8) rfl _ _ hrg2 Try.underlying33 rfl (by kernel_rfl) ?_)
            go_roundw
            case rel => exact ⟨i + 1, by simp, by omega, hE.trans (ext_of_grown (World.grownBy_alloc wr _ none)), all_snoc hy (by simp [actSmall, hx, hv]) hall⟩
            case measure => simp only [intOf]; omega
          · go_wp2_with (refine wpList_load_mid rfl 33 (.tmp 12) rfl b (o + i * 8) rfl _ _ hrg2 Try.underlying33 rfl (by kernel_rfl) ?_)
            go_ret
            refine ⟨?_, hE.trans (ext_of_grown (World.grownBy_alloc wr _ none))⟩
            have := all_take_false (p := actSmall) hy (by simp [actSmall, hx, hv])
            simp [fewActs, this]
        · go_wp2_with (refine wpList_load_mid rfl 33 (.tmp 12) rfl b (o + i * 8) rfl _ _ hrg2 Try.underlying33 rfl (by kernel_rfl) ?_)
          go_ret
          refine ⟨?_, hE.trans (ext_of_grown (World.grownBy_alloc wr _ none))⟩
          have := all_take_false (p := actSmall) hy (by simp [actSmall, hx])
          simp [fewActs, this]
      · go_wp2_with fail
        go_ret
        refine ⟨?_, hE⟩
        have hat : ys.take i = ys := List.take_of_length_le (by omega)
        rw [hat] at hall
        simp [fewActs, hall, hn, hle]
  · go_enter Try.func13, Try.ntmps13
    go_wp2
    go_ret
    refine ⟨?_, Ext.refl _⟩
    simp [fewActs, hn, hle]
end Go.Proofs.Ytiofkiaibcmdhaa
