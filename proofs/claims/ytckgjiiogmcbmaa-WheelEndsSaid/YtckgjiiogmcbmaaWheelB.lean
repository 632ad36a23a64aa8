/-
  A new wheel. No condition but that its clock stands at a tick below the last or at it.
-/
import Derived.Test.YtckgjiiogmcbmaaWheelA
namespace Go.GwYtckgjiiogmcbmaa
open Go.RowKit Go.MapKept Go.Maps Go.Proofs
open Go.ChangeMaps (setBlock)

def nil64 : List Value := List.replicate 64 (.map none)
theorem buildW (n : Int) (k : Nat) (w : World) : (Instr.build 47 #[(0, .int .u32 n), (2, .map (some k))]).run Try.prog w = .ok (.agg (wc n nil64 (.map (some k)))) w := by kernel_rfl

/-- the slots' maps, the first k of them made. -/
def made (lo k : Nat) : List Value := (List.range 64).map fun i => if i < k then .map (some (lo + 2 + i)) else .map none
/-- the wheel while its first k maps are made. -/
structure Making (w : World) (n : Int) (k : Nat) (wr : World) : Prop where
  cells : Cells wr (w.heap.size + 1) 47 (wc n (made w.heap.size k) (.map (some w.heap.size)))
  ins : MapK wr ekI okI w.heap.size []
  slots : ∀ i, i < k → MapK wr ekI okI (w.heap.size + 2 + i) []
  size : wr.heap.size = w.heap.size + 2 + k
  only : Only Nobody w wr

theorem made_zero (lo : Nat) : made lo 0 = nil64 := rfl
theorem made_all (lo : Nat) : made lo 64 = (List.range 64).map fun i => .map (some (lo + 2 + i)) := by
  unfold made
  apply List.map_congr_left
  intro i hi
  rw [if_pos (List.mem_range.1 hi)]
theorem made_set (n : Int) (lo k : Nat) (v : Value) (hk : k < 64) : (wc n (made lo k) v).setIfInBounds (1 + k) (.map (some (lo + 2 + k))) = wc n (made lo (k + 1)) v := by
  have e : (made lo k).set k (.map (some (lo + 2 + k))) = made lo (k + 1) := by
    apply List.ext_getElem?
    intro i
    unfold made
    rw [List.getElem?_set]
    by_cases hik : k = i
    · subst hik
      simp [hk]
    · rw [if_neg hik]
      simp only [List.getElem?_map]
      by_cases hi : i < 64
      · rw [List.getElem?_range hi]
        simp only [Option.map_some]
        congr 1
        by_cases h1 : i < k
        · rw [if_pos h1, if_pos (by omega)]
        · rw [if_neg h1, if_neg (by omega)]
      · rw [List.getElem?_eq_none (by simp; omega)]
        rfl
  unfold wc
  have hl : (made lo k).length = 64 := by simp [made]
  rw [List.setIfInBounds_toArray, Nat.add_comm 1 k, List.set_cons_succ, List.set_append, if_pos (by omega), e]
theorem made_at (n : Int) (lo k : Nat) (v : Value) (hk : k < 64) : (wc n (made lo k) v)[1 + k]? = some (.map none) := by
  unfold wc made
  rw [Nat.add_comm 1 k]
  simp [List.getElem?_append, hk]

theorem new_any (n : Int) (h0 : 0 ≤ n) (h1 : n ≤ 2147483647) (w : World) : Calls Try.prog 6 #[.int .u32 n] w fun e w' =>
    e = .returned (.pointer (some ⟨w.heap.size + 1, 0, none⟩)) ∧ WheelAt w' w.heap.size n [] ∧ Only Nobody w w' ∧ w'.heap.size = w.heap.size + 66 := by
  have hmm := @run_makeMap Try.prog
  go_enter Try.func6, Try.ntmps6
  go_wp2_with (with_reducible refine l_build #[(0, .int .u32 n), (2, .map (some w.heap.size))] _ (buildW n w.heap.size _) ?_)
  have hM : Making w n 0 ((w.alloc (Obj.map #[] 0)).alloc (Obj.cells (wc n nil64 (Value.map (some w.heap.size))) 47)) := by
    have o1 := Only.new1 w (Obj.map #[] 0)
    have o2 := Only.new1 (w.alloc (Obj.map #[] 0)) (Obj.cells (wc n nil64 (Value.map (some w.heap.size))) 47)
    have hc := Cells.new (w.alloc (Obj.map #[] 0)) 47 (wc n nil64 (Value.map (some w.heap.size)))
    rw [World.size_alloc] at hc
    refine ⟨by rw [made_zero]; exact hc, (MapK.made w ekI okI).keep o2 (fun t => t), fun i hi => absurd hi (by omega), by simp, o1.trans o2 (fun _ _ t => t)⟩
  generalize (w.alloc (Obj.map #[] 0)).alloc (Obj.cells (wc n nil64 (Value.map (some w.heap.size))) 47) = w0 at hM ⊢
  go_loopw [9] (fun c wr => ∃ k : Nat, k ≤ 64 ∧ c = .int .i64 k ∧ Making w n k wr) (fun c _ => 64 - (intOf c).toNat)
  case atStart => exact ⟨0, by omega, rfl, hM⟩
  case round =>
    obtain ⟨k, hk, rfl, hM⟩ := hrel
    by_cases hlt : k < 64
    · have hki : (k : Int) < 64 := by omega
      have c1 := hM.cells.cell (1 + k)
      rw [made_at _ _ _ _ hlt] at c1
      have f1 := hM.cells.frozen (1 + k)
      have hz : w.heap.size + 1 < wr.heap.size := by rw [hM.size]; omega
      go_wp2
      go_roundw
      case rel =>
        refine ⟨k + 1, by omega, by go_num, ?_⟩
        have p1 := Only.cell1 wr ⟨w.heap.size + 1, 1 + k, none⟩ (.map (some wr.heap.size))
        have p2 := Only.new1 (wr.setCell ⟨w.heap.size + 1, 1 + k, none⟩ (.map (some wr.heap.size))) (Obj.map #[] 0)
        have hc := (hM.cells.set_ (1 + k) (.map (some wr.heap.size))).keep p2 (fun t => t)
        rw [hM.size, made_set _ _ _ _ hlt, ← hM.size] at hc
        have mk := MapK.made (wr.setCell ⟨w.heap.size + 1, 1 + k, none⟩ (.map (some wr.heap.size))) ekI okI
        rw [World.size_setCell] at mk
        refine ⟨hc, (hM.ins.keep p1 (by simp only; omega)).keep p2 (fun t => t), fun i hi => ?_, by simp [hM.size]; omega, ?_⟩
        · by_cases hik : i = k
          · subst hik
            rw [← hM.size]
            exact mk
          · exact ((hM.slots i (by omega)).keep p1 (by simp only; omega)).keep p2 (fun t => t)
        · exact (hM.only.setCell (fun hb => by simp only at hb; omega) _).alloc _
      case measure => simp [intOf]; omega
    · obtain rfl : k = 64 := by omega
      go_wp2
      go_ret
      have hc := hM.cells
      rw [made_all] at hc
      exact ⟨rfl, ⟨hc, hM.ins, hM.slots, h0, h1, by simp, by simp⟩, hM.only, by rw [hM.size]⟩
end Go.GwYtckgjiiogmcbmaa
