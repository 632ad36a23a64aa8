/-
  The statements' own example of the wheel. No condition.
-/
import Derived.Test.YtckgjiiogmcbmaaWheelD
import Derived.Test.YtckgjiiogmcbmaaWheelB
import Derived.Test.YtckgjiiogmcbmaaInts
namespace Go.GwYtckgjiiogmcbmaa
open Go.RowKit Go.MapKept Go.Maps Go.Proofs
open Go.ChangeMaps (setBlock)
variable {w : World} {lo : Nat} {now : Int} {E : List (Int × Ent)}

theorem sortD_nil : sortD [] = [] := by unfold sortD; simp
theorem sortD_one (x : Int × Int) : sortD [x] = [x] := by unfold sortD; simp
theorem slotOf_one (id : Int) (x : Ent) (s : Nat) : slotOf [(id, x)] s = if x.slot = s then [(id, .int .u32 x.at_)] else [] := by
  unfold slotOf
  by_cases h : x.slot = s <;> simp [h]
theorem dueL_one (n id : Int) (x : Ent) : dueL n [(id, x)] = if x.slot = (n % 64).toNat ∧ x.at_ ≤ n then [(id, x.at_)] else [] := by
  unfold dueL
  rw [slotOf_one]
  by_cases h : x.slot = (n % 64).toNat <;> by_cases k : x.at_ ≤ n <;> simp [h, k, dueOf, sortD_nil, sortD_one]
theorem dueL_nil (n : Int) : dueL n [] = [] := by unfold dueL; simp [slotOf, dueOf, sortD_nil]

/-- a tick, its list as a slice that is only read. -/
theorem tick_row (h : WheelAt w lo now E) (hn : now < 2147483647) (hE : E.length < 1000000000) : Calls Try.prog 10 #[.pointer (some ⟨lo + 1, 0, none⟩)] w fun e w' =>
    ∃ v, e = .returned v ∧ RowAt w' (fun k => w.heap.size ≤ k) 1 v ((dueL (now + 1) E).map (·.1)).length (((dueL (now + 1) E).map (·.1)).map fun x => .int .i64 x) ∧ WheelAt w' lo (now + 1) ((dueL (now + 1) E).foldl (fun l x => kvDel l x.1) E) ∧ Only (InWheel lo) w w' :=
  (tick_on h hn hE).mono fun e w' ⟨v, h1, h2, h3, h4⟩ => ⟨v, h1, by
    have := RowAt.of_own h2
    rw [List.length_map, List.map_map]
    exact this, h3, h4⟩

theorem ok7 : okI 7 := by unfold okI; decide
theorem set72 : kvDel [] (7 : Int) ++ [((7 : Int), (⟨2, slotAt 0 2⟩ : Ent))] = [(7, ⟨2, 2⟩)] := by decide
set_option maxHeartbeats 1000000 in
theorem known_any (w : World) : Calls Try.prog 5 #[] w fun e w' => e = .returned (.bool true) ∧ Only Nobody w w' := by
  go_enter Try.func5, Try.ntmps5
  go_wp2_with (first
    | (go_at_call 6
       refine (new_any 0 (by omega) (by omega) _).mono ?_
       rintro e w1 ⟨rfl, hW1, ho1, hs1⟩
       generalize hlo : w.heap.size = lo at *)
    | (go_at_call 7
       refine (set_any hW1 7 2 ok7 (by omega) (by omega)).mono ?_
       rintro e w2 ⟨rfl, hW2, ho2⟩
       rw [set72] at hW2)
    | (go_at_call 10
       (first
         | (refine (tick_row hW2 (by omega) (by decide)).mono ?_
            rintro e w3 ⟨v3, rfl, hr3, hW3, ho3⟩
            rw [dueL_one, if_neg (by decide)] at hr3 hW3
            have hW3' : WheelAt w3 lo 1 [(7, ⟨2, 2⟩)] := hW3
            obtain ⟨A3, c3, rfl, _⟩ := hr3.open
            simp only [List.map_nil, List.length_nil] at *
            clear hW2 hW3 hr3)
         | (refine (tick_row hW3' (by omega) (by decide)).mono ?_
            rintro e w4 ⟨v4, rfl, hr4, hW4, ho4⟩
            rw [dueL_one, if_pos (by decide)] at hr4 hW4
            have hW4' : WheelAt w4 lo 2 [] := hW4
            have hr4' : RowAt w4 (fun k => w3.heap.size ≤ k) 1 v4 [(7 : Int)].length ([(7 : Int)].map fun x => .int .i64 x) := hr4
            clear hW3' hW4 hr4)))
    | (go_at_call 14
       refine (at_any hW3' 7 ok7).mono ?_
       rintro e w5 ⟨rfl, rfl⟩
       have hat : (((kvGet [((7 : Int), (⟨2, 2⟩ : Ent))] 7).map (·.at_)).getD 0) = 2 := rfl
       have hat' : (kvGet [((7 : Int), (⟨2, 2⟩ : Ent))] 7).isSome = true := rfl
       rw [hat, hat'])
    | (go_at_call 9
       refine (ints_any [7] [7] (hr4'.keep (Only.new1 _ _) (fun _ _ _ t => t)) (RowAt.built _ 3 1 1 [.int .i64 7] rfl (by decide))).mono ?_
       rintro e w6 ⟨rfl, ho6⟩
       have hW6 := (hW4'.keep (Only.new1 _ _) (fun _ _ t => t)).keep ho6 (fun _ _ t => t)
       simp only [decide_true])
    | (go_at_call 12
       refine (now_any hW6).mono ?_
       rintro e w7 ⟨rfl, rfl⟩)
    | (go_at_call 13
       refine (count_any hW6).mono ?_
       rintro e w8 ⟨rfl, rfl⟩
       simp only [List.length_nil])
    | (go_at_call 15
       refine (drop_any hW6 7 ok7).mono ?_
       rintro e w9 ⟨rfl, hW9, ho9⟩
       have hg : (kvGet ([] : List (Int × Ent)) (7 : Int)).isSome = false := rfl
       rw [hg])
    )
  go_ret
  have hno : ∀ i, i < w.heap.size → InWheel lo i → Nobody i := fun i hi t => absurd t.1 (by omega)
  exact ⟨rfl, (((((ho1.trans ho2 hno).trans ho3 hno).trans ho4 hno).alloc _).trans ho6 (fun _ _ t => t)).trans ho9 hno⟩
end Go.GwYtckgjiiogmcbmaa
