/-
  How the wheel's sort compares two numbers that are due; the sort. No condition but that fewer than 2^62 are sorted.
-/
import Derived.Test.YtckgjiiogmcbmaaWheelA
import Derived.Test.YtckgjiiogmcbmaaSortK
import Derived.Test.YtckgjiiogmcbmaaShelf
namespace Go.GwYtckgjiiogmcbmaa
open Go.RowKit Go.MapKept Go.Maps Go.Proofs Go.Shelf Go.Lib Go.Sort
open Go.ChangeMaps (setBlock)

def cmpI (x y : Int) : Int := if x < y then -1 else if y < x then 1 else 0

theorem nan_u32 (x : Int) (w : World) : Calls Try.prog 24 #[.int .u32 x] w fun e w' => e = .returned (.bool false) ∧ w = w' := by
  go_enter Try.func24, Try.ntmps24
  go_wp2
  go_ret
  exact ⟨rfl, rfl⟩
theorem nan_int (x : Int) (w : World) : Calls Try.prog 25 #[.int .i64 x] w fun e w' => e = .returned (.bool false) ∧ w = w' := by
  go_enter Try.func25, Try.ntmps25
  go_wp2
  go_ret
  exact ⟨rfl, rfl⟩
theorem compare_u32 (x y : Int) (w : World) : Calls Try.prog 20 #[.int .u32 x, .int .u32 y] w fun e w' => e = .returned (.int .i64 (cmpI x y)) ∧ w = w' := by
  rcases (show (x < y ∧ ¬ y < x) ∨ (y < x ∧ ¬ x < y) ∨ (¬ x < y ∧ ¬ y < x) by omega) with ⟨h1, h2⟩ | ⟨h1, h2⟩ | ⟨h1, h2⟩
  · rw [show cmpI x y = -1 by simp [cmpI, h1, h2]]
    go_enter Try.func20, Try.ntmps20
    go_wp2_with (go_at_call 24; refine (nan_u32 _ _).mono ?_; rintro e w' ⟨rfl, rfl⟩)
    go_ret
    exact ⟨rfl, rfl⟩
  · rw [show cmpI x y = 1 by simp [cmpI, h1, h2]]
    go_enter Try.func20, Try.ntmps20
    go_wp2_with (go_at_call 24; refine (nan_u32 _ _).mono ?_; rintro e w' ⟨rfl, rfl⟩)
    go_ret
    exact ⟨rfl, rfl⟩
  · rw [show cmpI x y = 0 by simp [cmpI, h1, h2]]
    go_enter Try.func20, Try.ntmps20
    go_wp2_with (go_at_call 24; refine (nan_u32 _ _).mono ?_; rintro e w' ⟨rfl, rfl⟩)
    go_ret
    exact ⟨rfl, rfl⟩
theorem compare_int (x y : Int) (w : World) : Calls Try.prog 21 #[.int .i64 x, .int .i64 y] w fun e w' => e = .returned (.int .i64 (cmpI x y)) ∧ w = w' := by
  rcases (show (x < y ∧ ¬ y < x) ∨ (y < x ∧ ¬ x < y) ∨ (¬ x < y ∧ ¬ y < x) by omega) with ⟨h1, h2⟩ | ⟨h1, h2⟩ | ⟨h1, h2⟩
  · rw [show cmpI x y = -1 by simp [cmpI, h1, h2]]
    go_enter Try.func21, Try.ntmps21
    go_wp2_with (go_at_call 25; refine (nan_int _ _).mono ?_; rintro e w' ⟨rfl, rfl⟩)
    go_ret
    exact ⟨rfl, rfl⟩
  · rw [show cmpI x y = 1 by simp [cmpI, h1, h2]]
    go_enter Try.func21, Try.ntmps21
    go_wp2_with (go_at_call 25; refine (nan_int _ _).mono ?_; rintro e w' ⟨rfl, rfl⟩)
    go_ret
    exact ⟨rfl, rfl⟩
  · rw [show cmpI x y = 0 by simp [cmpI, h1, h2]]
    go_enter Try.func21, Try.ntmps21
    go_wp2_with (go_at_call 25; refine (nan_int _ _).mono ?_; rintro e w' ⟨rfl, rfl⟩)
    go_ret
    exact ⟨rfl, rfl⟩
def orI (x y : Int) : Int := if x ≠ 0 then x else y
def OrInv (x y : Int) (k : Nat) : Prop := (0 < k → x = 0) ∧ (1 < k → y = 0)
/-- cmp.Or of two numbers that lie in a block. -/
theorem or_two (g : Nat) (x y : Int) (w : World) (c0 : w.cell? ⟨g, 0, none⟩ = some (.int .i64 x)) (c1 : w.cell? ⟨g, 1, none⟩ = some (.int .i64 y)) :
    Calls Try.prog 19 #[.slice (some ⟨g, 0, none⟩) 2 2] w fun e w' => e = .returned (.int .i64 (orI x y)) ∧ w = w' := by
  have hx : x = 0 ∨ (x != 0) = true := by by_cases h : x = 0 <;> simp [h]
  have hy : y = 0 ∨ (y != 0) = true := by by_cases h : y = 0 <;> simp [h]
  have HX := Lib.hid hx
  have HY := Lib.hid hy
  clear hx hy
  go_enter Try.func19, Try.ntmps19
  go_wp2
  go_loop [8] (fun i => ∃ k : Nat, k ≤ 2 ∧ i = .int .i64 k ∧ OrInv x y k) (fun i => 2 - (Go.RowKit.intOf i).toNat)
  case atStart => exact ⟨0, by omega, rfl, ⟨fun h => absurd h (by omega), fun h => absurd h (by omega)⟩⟩
  case round =>
    obtain ⟨k, hk, rfl, hr⟩ := hrel
    rcases (show k = 0 ∨ k = 1 ∨ k = 2 by omega) with rfl | rfl | rfl
    · rcases HX.out with rfl | hx
      · go_wp2
        go_round
        case rel => exact ⟨1, by omega, by go_num, ⟨fun _ => rfl, fun h => absurd h (by omega)⟩⟩
        case measure => simp [Go.RowKit.intOf]
      · go_wp2
        go_ret
        exact ⟨by simp at hx; simp [orI, hx], rfl⟩
    · rcases HY.out with rfl | hy
      · go_wp2
        go_round
        case rel => exact ⟨2, by omega, by go_num, ⟨fun _ => hr.1 (by omega), fun _ => rfl⟩⟩
        case measure => simp [Go.RowKit.intOf]
      · go_wp2
        go_ret
        have := hr.1 (by omega)
        exact ⟨by simp [orI, this], rfl⟩
    · go_wp2
      go_ret
      have h1 := hr.1 (by omega)
      have h2 := hr.2 (by omega)
      exact ⟨by simp [orI, h1, h2], rfl⟩

/-- a number that is due, and when. -/
def encD (x : Int × Int) : List Value := [.int .i64 x.1, .int .u32 x.2]
theorem oneD (x : Int × Int) : ∀ u ∈ encD x, u.oneCell' = true := fun u hu => by simp [encD] at hu; rcases hu with rfl | rfl <;> rfl
def cfD (x y : Int × Int) : Int := orI (cmpI x.2 y.2) (cmpI x.1 y.1)

theorem buildDue (x y : Int) (w : World) : (Instr.buildSlice 33 2 #[(0, .int .i64 x), (1, .int .i64 y)]).run Try.prog w = .ok (.slice (some ⟨w.heap.size, 0, none⟩) 2 2) (w.alloc (.cells #[.int .i64 x, .int .i64 y] 3)) := by kernel_rfl

set_option maxHeartbeats 800000 in
theorem cmpDue (x y : Int × Int) (w : World) : Calls Try.prog 18 #[.agg (encD x).toArray, .agg (encD y).toArray] w fun e w' =>
    e = .returned (.int .i64 (cfD x y)) ∧ ∃ q os', w' = grow (w.drewN q) os' := by
  unfold encD cfD
  have hb := buildDue (cmpI x.2 y.2) (cmpI x.1 y.1)
  generalize hr1 : cmpI x.2 y.2 = r1 at hb ⊢
  generalize hr2 : cmpI x.1 y.1 = r2 at hb ⊢
  have HR1 := Lib.hid hr1
  have HR2 := Lib.hid hr2
  clear hr1 hr2
  go_enter Try.func18, Try.ntmps18
  go_wp2_with fail
  refine wp_region_lex (fun W => W.cell? ⟨w.heap.size, 0, none⟩ = some (.int .i64 x.1) ∧ W.cell? ⟨w.heap.size, 1, none⟩ = some (.int .u32 x.2) ∧ W.cell? ⟨w.heap.size + 1, 0, none⟩ = some (.int .i64 y.1) ∧ W.cell? ⟨w.heap.size + 1, 1, none⟩ = some (.int .u32 y.2)) [4, 9, 10, 11] (by kernel_rfl) (by kernel_rfl) ?_ ?_
  · go_simp
  simp only [lexTag, List.contains_cons, List.contains_nil, Nat.reduceAdd, Nat.reduceBEq, Bool.or_false, Bool.false_or, Bool.or_true, Bool.true_or]
  iterate 4 (refine lex_pureK rfl (fun K hK => ?_); apply Exists.intro; refine ⟨fun W hW => ?_, ?_⟩; (obtain ⟨hc1, hc2, hc3, hc4⟩ := hW; go_simp; rfl); simp only [put_lit, put_no, List.set_cons_zero, List.set_cons_succ]; refine hK _ ?_; clear hK K)
  refine lex_eff rfl (fun K hK => ?_)
  go_simp
  refine (compare_u32 _ _ _).mono ?_
  rintro e w1 ⟨rfl, rfl⟩
  rw [HR1.out]
  refine hK _ _ (by go_simp) ?_
  clear hK K
  iterate 4 (refine lex_pureK rfl (fun K hK => ?_); apply Exists.intro; refine ⟨fun W hW => ?_, ?_⟩; (obtain ⟨hc1, hc2, hc3, hc4⟩ := hW; go_simp; rfl); simp only [put_lit, put_no, List.set_cons_zero, List.set_cons_succ]; refine hK _ ?_; clear hK K)
  refine lex_eff rfl (fun K hK => ?_)
  go_simp
  refine (compare_int _ _ _).mono ?_
  rintro e w1 ⟨rfl, rfl⟩
  rw [HR2.out]
  refine hK _ _ (by go_simp) ?_
  clear hK K
  refine lex_eff rfl (fun K hK => ?_)
  go_simp
  refine hK _ _ (by go_simp) ?_
  clear hK K
  refine lex_eff rfl (fun K hK => ?_)
  go_simp
  refine (or_two _ r1 r2 _ (by go_simp) (by go_simp)).mono ?_
  rintro e w1 ⟨rfl, rfl⟩
  refine hK _ _ (by go_simp) ?_
  clear hK K
  (refine lex_pureK rfl (fun K hK => ?_); apply Exists.intro; refine ⟨fun W hW => ?_, ?_⟩; (obtain ⟨hc1, hc2, hc3, hc4⟩ := hW; go_simp; rfl); simp only [put_lit, put_no, List.set_cons_zero, List.set_cons_succ]; refine hK _ ?_; clear hK K)
  refine lex_nil ?_
  go_wp2
  go_ret
  exact ⟨rfl, 1, _, by rw [alloc_eq_grow, alloc_eq_grow, alloc_eq_grow, grow_grow, grow_grow]; rfl⟩

theorem ltD (x y : Int × Int) : ltOf cfD x y = decide (x.2 < y.2 ∨ (x.2 = y.2 ∧ x.1 < y.1)) := by
  unfold ltOf cfD orI cmpI
  rcases Int.lt_trichotomy x.2 y.2 with h | h | h
  · simp [h]
  · rcases Int.lt_trichotomy x.1 y.1 with k | k | k
    · simp [h, k]
    · simp [h, k]
    · simp [h, k, Int.not_lt.2 (Int.le_of_lt k)]
  · have h1 : ¬ x.2 < y.2 := by omega
    have h2 : ¬ x.2 = y.2 := by omega
    simp [h, h1, h2]
theorem swoD : SWO (ltOf cfD) where
  irrefl x := by rw [ltD]; simp
  trans x y z h1 h2 := by rw [ltD] at *; simp at *; omega
  ntrans x y z h1 h2 := by rw [ltD] at *; simp at *; omega
theorem totD (x y : Int × Int) (h1 : ltOf cfD x y = false) (h2 : ltOf cfD y x = false) : x = y := by
  rw [ltD] at *
  simp at *
  obtain ⟨a, b⟩ := x
  obtain ⟨c, d⟩ := y
  simp only [Prod.mk.injEq] at *
  omega

/-- the sort of the numbers that are due. -/
def sortD (xs : List (Int × Int)) : List (Int × Int) := xs.mergeSort fun x y => !(ltOf cfD) y x
theorem sort_due (base : Nat) (v : Value) (xs : List (Int × Int)) (w : World) (hown : w.ownsRow base 52 2 v xs.length (xs.flatMap encD)) (hsz : xs.length < 4611686018427387904) :
    Calls Try.prog 17 #[v, .func (.func 18) #[] #[]] w fun e' w' => e' = .returned (.tuple #[]) ∧ w'.ownsRow base 52 2 v xs.length ((sortD xs).flatMap encD) ∧ w.grownBy w' v.ownBlock := by
  have eg : ∀ args w, (callFunc 18 args).run Try.prog w = .ok (.enter 18 args) w := enters_of Try.func18 (by kernel_rfl) rfl
  have h := sortFunc_own Try.sortDue 2 Try.isAgg52 Try.sizeOf52 encD (fun _ => rfl) (fun x v hv => by simp [encD] at hv; rcases hv with rfl | rfl <;> rfl) cfD swoD totD 18 eg cmpDue base 52 v xs w hown hsz
  change Calls Try.prog 17 _ _ _ at h
  exact h
end Go.GwYtckgjiiogmcbmaa
