/-
  The statements' own comparison of two lists of numbers. No condition.
-/
import Derived.Test.YtckgjiiogmcbmaaRow
import Derived.Test.YtckgjiiogmcbmaaRows
import Derived.Deep.LoopGhost
namespace Go.GwYtckgjiiogmcbmaa
open Go.RowKit Go.MapKept Go.Maps Go.Proofs
open Go.ChangeMaps (setBlock)

structure PreEq (xs ys : List Int) (k : Nat) (i : Value) : Prop where
  hi : i = .int .i64 k
  le : k ≤ xs.length
  eq : xs.take k = ys.take k

set_option maxHeartbeats 800000 in
theorem ints_any {w : World} {R1 R2 : Nat → Prop} {v1 v2 : Value} (xs ys : List Int) (h1 : RowAt w R1 1 v1 xs.length (xs.map fun x => .int .i64 x)) (h2 : RowAt w R2 1 v2 ys.length (ys.map fun x => .int .i64 x)) :
    Calls Try.prog 9 #[v1, v2] w fun e w' => e = .returned (.bool (decide (xs = ys))) ∧ Only Nobody w w' := by
  obtain ⟨A1, c1, rfl, l1, m1, k1⟩ := h1.open
  obtain ⟨A2, c2, rfl, l2, m2, k2⟩ := h2.open
  by_cases hl : xs.length = ys.length
  · have HL := Lib.hid hl
    have hli : ((xs.length : Int) != (ys.length : Int)) = false := by rw [hl]; simp
    unfold maxLen at m1 m2
    clear hl
    go_enter Try.func9, Try.ntmps9
    go_wp2
    go_loopg [5] xs.length (fun gk i wz => PreEq xs ys (xs.length - gk) i ∧ gk ≤ xs.length ∧ Only Nobody w wz)
    case atStart => exact ⟨⟨by simp, by omega, by simp⟩, Nat.le_refl _, Only.refl _ _⟩
    case round =>
      obtain ⟨⟨rfl, hle, heq⟩, hgk, ho⟩ := hrel
      obtain ⟨k, hk⟩ : ∃ k, xs.length - gk = k := ⟨_, rfl⟩
      rw [hk] at hle heq ⊢
      by_cases hkn : k < xs.length
      · obtain ⟨g1, o1, rfl, _, _, d1⟩ := k1 (by omega)
        obtain ⟨g2, o2, rfl, _, _, d2⟩ := k2 (by have := HL.out; omega)
        have hky : k < ys.length := by have := HL.out; omega
        obtain ⟨x, hx⟩ : ∃ x, xs[k]? = some x := ⟨_, List.getElem?_eq_getElem hkn⟩
        obtain ⟨y, hy⟩ : ∃ y, ys[k]? = some y := ⟨_, List.getElem?_eq_getElem hky⟩
        have e1 := ho.cell_some (d1 k (.int .i64 x) (by simp [hx])) (fun t => t)
        have e2 := ho.cell_some (d2 k (.int .i64 y) (by simp [hy])) (fun t => t)
        clear d1 d2 k1 k2
        by_cases hxy : x = y
        · subst hxy
          have hk1 : xs.length - (gk - 1) = k + 1 := by omega
          have hk2 : gk - 1 ≤ xs.length := by omega
          have hk3 : gk - 1 < gk := by omega
          go_wp2
          go_region
          go_wp2
          go_roundg (gk - 1)
          case measure => exact hk3
          case rel =>
            rw [hk1]
            refine ⟨⟨by go_num, by omega, ?_⟩, hk2, ho.drew⟩
            rw [List.take_add_one, List.take_add_one, hx, hy, heq]
        · go_wp2
          go_region
          go_wp2
          go_ret
          refine ⟨?_, ho.drew⟩
          have : xs ≠ ys := by rintro rfl; rw [hx] at hy; cases hy; exact hxy rfl
          simp [this]
      · go_wp2
        go_ret
        have hkk : k = xs.length := by omega
        rw [List.take_of_length_le (by omega), List.take_of_length_le (by have := HL.out; omega)] at heq
        exact ⟨by simp [heq], ho⟩
  · have hli : ((xs.length : Int) != (ys.length : Int)) = true := by simp; omega
    go_enter Try.func9, Try.ntmps9
    go_wp2
    go_ret
    have : xs ≠ ys := by rintro rfl; exact hl rfl
    exact ⟨by simp [this], Only.refl _ _⟩
end Go.GwYtckgjiiogmcbmaa
