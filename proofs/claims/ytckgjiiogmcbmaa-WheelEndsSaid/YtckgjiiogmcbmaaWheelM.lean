/-
  The walk of WheelMoves. No condition.
-/
import Derived.Test.YtckgjiiogmcbmaaWheelE
import Derived.OpenShut
namespace Go.GwYtckgjiiogmcbmaa
open Go.RowKit Go.MapKept Go.Maps Go.Proofs
open Go.ChangeMaps (setBlock)
variable {w : World} {lo : Nat}

/-- a slice of numbers that came in. -/
structure InRow (k : IntKind) (w : World) (A : Option Addr) (n : Nat) (zs : List Int) : Prop where
  le : n ≤ zs.length
  big : n ≤ maxLen
  ex : 0 < n → ∃ x, A = some x ∧ x.block < w.heap.size ∧ ∀ i, i < n → w.cell? (x.add i) = some (.int k (zs.getD i 0))
  wf : ∀ i, i < n → (Lit.int k (zs.getD i 0)).wf = true

/-- the wheel after i settings of one number. -/
def EofM (id : Int) (zs : List Int) (i : Nat) : List (Int × Ent) := if i = 0 then [] else [(id, ⟨10 + zs.getD (i - 1) 0, slotAt 9 (10 + zs.getD (i - 1) 0)⟩)]
theorem EofM_next (id : Int) (zs : List Int) (i : Nat) (n : Int) (h : n = 10 + zs.getD i 0) : kvDel (EofM id zs i) id ++ [(id, ⟨n, slotAt 9 n⟩)] = EofM id zs (i + 1) := by
  subst h
  unfold EofM
  rw [if_neg (show ¬ i + 1 = 0 by omega)]
  split
  · rfl
  · simp [kvDel]
structure SetRel (w1 : World) (lo : Nat) (id : Int) (zs : List Int) (k : Nat) (i : Value) (wz : World) : Prop where
  hi : i = .int .i64 k
  at_ : WheelAt wz lo 9 (EofM id zs k)
  only : Only (InWheel lo) w1 wz
/-- the wheel ahead of the tick k, its one number due at T. -/
def ErunM (id T : Int) (k : Int) : List (Int × Ent) := if k ≤ T then [(id, ⟨T, (T % 64).toNat⟩)] else []
theorem ErunM_due (id T k : Int) : dueL k (ErunM id T k) = if k = T then [(id, T)] else [] := by
  unfold ErunM
  by_cases h : k ≤ T
  · rw [if_pos h, dueL_one]
    by_cases e : k = T
    · subst e; simp
    · rw [if_neg (by simp only; omega), if_neg e]
  · rw [if_neg h, dueL_nil, if_neg (by omega)]
theorem ErunM_next (id T k : Int) : (dueL k (ErunM id T k)).foldl (fun l x => kvDel l x.1) (ErunM id T k) = ErunM id T (k + 1) := by
  rw [ErunM_due]
  unfold ErunM
  by_cases e : k = T
  · subst e
    rw [if_pos rfl, if_pos (Int.le_refl _), if_neg (by omega)]
    simp [kvDel]
  · rw [if_neg e]
    by_cases h : k ≤ T
    · rw [if_pos h, if_pos (by omega)]; rfl
    · rw [if_neg h, if_neg (by omega)]; rfl
theorem ErunM_len (id T k : Int) : (ErunM id T k).length < 1000000000 := by unfold ErunM; split <;> simp
structure RunRel (w1 : World) (lo : Nat) (id T : Int) (k : Nat) (i : Value) (wz : World) : Prop where
  hi : i = .int .u32 k
  at_ : WheelAt wz lo (k - 1 : Int) (ErunM id T k)
  only : Only (InWheel lo) w1 wz

set_option maxHeartbeats 2000000 in
theorem moves_walk (id : Int) (A : Option Addr) (n cap : Nat) (zs : List Int) (w : World) (hid : okI id) (hz : InRow .u8 w A n zs) :
    Calls Try.prog 4 #[.int .i64 id, .slice A n cap] w fun e w' => e = .returned (.bool true) ∧ Only Nobody w w' := by
  have hbig := hz.big
  by_cases hn0 : n = 0
  · subst hn0
    go_enter Try.func4, Try.ntmps4
    go_wp2_with (go_at_call 5; refine (known_any _).mono ?_; rintro e w1 ⟨rfl, ho1⟩)
    go_ret
    exact ⟨rfl, ho1⟩
  by_cases hn40 : 40 < n
  · have e0 : ((n : Int) == 0) = false := by simp; omega
    unfold maxLen at hbig
    go_enter Try.func4, Try.ntmps4
    go_wp2_with (go_at_call 5; refine (known_any _).mono ?_; rintro e w1 ⟨rfl, ho1⟩)
    go_ret
    exact ⟨rfl, ho1⟩
  have e0 : ((n : Int) == 0) = false := by simp; omega
  obtain ⟨x, rfl, hb, hcell⟩ := hz.ex (by omega)
  clear hbig
  have hab : ∀ k, (x.add k).block = x.block := fun k => by unfold Addr.add; split <;> rfl
  go_enter Try.func4, Try.ntmps4
  go_wp2_with (first
    | (go_at_call 5; refine (known_any _).mono ?_; rintro e w1 ⟨rfl, ho1⟩)
    | (go_at_call 6
       refine (new_any 9 (by omega) (by omega) _).mono ?_
       rintro e w2 ⟨rfl, hW2, ho2, hs2⟩
       have hlow : w.heap.size ≤ w1.heap.size := ho1.size
       generalize hlo : w1.heap.size = lo at *))
  go_loopg [6] n (fun gk i wz => SetRel w2 lo id zs (n - gk) i wz ∧ gk ≤ n)
  case atStart => exact ⟨⟨by simp, by simpa [EofM] using hW2, Only.refl _ _⟩, Nat.le_refl _⟩
  case round =>
    obtain ⟨⟨rfl, hW, ho⟩, hle⟩ := hrel
    obtain ⟨k, hk⟩ : ∃ k, n - gk = k := ⟨_, rfl⟩
    rw [hk] at hW ⊢
    have cell_at : ∀ j, j < n → ∀ wq, Only (InWheel lo) w2 wq → wq.cell? (x.add j) = some (.int .u8 (zs.getD j 0)) := fun j hj wq hq =>
      hq.cell_some ((ho1.trans ho2 (fun _ _ t => t)).cell_some (hcell j hj) (fun t => t)) (fun t => by have := t.1; rw [hab] at this; omega)
    clear hcell
    by_cases hkn : k < n
    · obtain ⟨z, hzk⟩ : ∃ z, zs.getD k 0 = z := ⟨_, rfl⟩
      have hwf := hz.wf k hkn
      rw [hzk] at hwf
      obtain ⟨hz0, hz1⟩ := bounds_u8 hwf
      have c1 := cell_at k hkn _ ho
      rw [hzk] at c1
      have HZ := Lib.hid hzk
      clear hzk hwf cell_at
      have hmod : (10 + z) % 4294967296 = 10 + z := by omega
      have hk1 : n - (gk - 1) = k + 1 := by omega
      have hk2 : gk - 1 ≤ n := by omega
      have hk3 : gk - 1 < gk := by omega
      go_wp2_with (first
        | (go_at_call 7
           refine (set_any hW id (10 + z) hid (by omega) (by omega)).mono ?_
           rintro e w3 ⟨rfl, hW3, ho3⟩
           have o3 : Only (InWheel lo) w2 w3 := ho.trans ho3 (fun _ _ t => t)
           rw [EofM_next id zs k (10 + z) (by rw [HZ.out])] at hW3))
      go_roundg (gk - 1)
      case measure => exact hk3
      case rel =>
        rw [hk1]
        refine ⟨⟨?_, hW3, o3⟩, hk2⟩
        go_num
    · obtain rfl : k = n := by omega
      obtain ⟨m, rfl⟩ : ∃ m, k = m + 1 := ⟨k - 1, by omega⟩
      obtain ⟨z, hzk⟩ : ∃ z, zs.getD m 0 = z := ⟨_, rfl⟩
      have hwf := hz.wf m (by omega)
      rw [hzk] at hwf
      obtain ⟨hz0, hz1⟩ := bounds_u8 hwf
      have hE : EofM id zs (m + 1) = [(id, ⟨10 + z, ((10 + z) % 64).toNat⟩)] := by
        unfold EofM
        rw [if_neg (by omega), Nat.add_sub_cancel, hzk]
        unfold slotAt
        rw [show max (10 + z) (9 + 1) = 10 + z by omega]
      rw [hE] at hW
      have hcellm := fun wq hq => cell_at m (by omega) wq hq
      rw [hzk] at hcellm
      clear hE cell_at hk hkn
      go_wp2_with (first
        | (go_at_call 13
           refine (count_any hW).mono ?_
           rintro e w4 ⟨rfl, rfl⟩
           simp only [List.length_singleton]))
      have hT1 : 10 ≤ 10 + z := by omega
      have hT2 : 10 + z ≤ 265 := by omega
      have hmodT : (10 + z) % 4294967296 = 10 + z := by omega
      have hWT : WheelAt wr lo (10 - 1) (ErunM id (10 + z) 10) := by unfold ErunM; rw [if_pos hT1]; exact hW
      have hid' := hid
      go_loopg [7] 261 (fun gk i wz => RunRel w2 lo id (10 + z) (271 - gk) i wz ∧ gk ≤ 261)
      case atStart => exact ⟨⟨rfl, hWT, ho⟩, Nat.le_refl _⟩
      case round =>
        rename_i ho0 _
        clear hW hWT
        obtain ⟨⟨rfl, hW, ho⟩, hle⟩ := hrel
        obtain ⟨k, hk⟩ : ∃ k, 271 - gk = k := ⟨_, rfl⟩
        rw [hk] at hW ⊢
        have hk10 : 10 ≤ k := by omega
        have c1 := hcellm _ ho
        by_cases hkn : k ≤ 270
        · have hk1 : 271 - (gk - 1) = k + 1 := by omega
          have hk2 : gk - 1 ≤ 261 := by omega
          have hk3 : gk - 1 < gk := by omega
          have hstep := (tick_row hW (by omega) (ErunM_len _ _ _))
          rw [show ((k : Int) - 1 + 1) = k by omega, ErunM_next, ErunM_due] at hstep
          by_cases hkT : (k : Int) = 10 + z
          · rw [if_pos hkT] at hstep
            go_wp2_with (first
              | (go_at_call 10
                 refine hstep.mono ?_
                 rintro e w5 ⟨v5, rfl, hr5, hW5, ho5⟩
                 obtain ⟨A5, c5, rfl, _, _, hr5'⟩ := hr5.open
                 obtain ⟨g, o, rfl, hg1, hg2, hgc⟩ := hr5' (by simp)))
            have d1 : w5.cell? ⟨g, o, none⟩ = some (.int .i64 id) := hgc 0 _ rfl
            have c5' := hcellm _ (ho.trans ho5 (fun _ _ t => t))
            clear hgc hr5' hr5 c1
            go_region
            go_wp2
            go_roundg (gk - 1)
            case measure => exact hk3
            case rel =>
              rw [hk1]
              refine ⟨⟨?_, ?_, (ho.trans ho5 (fun _ _ t => t)).drew⟩, hk2⟩
              · go_num
              · rw [show (((k + 1 : Nat) : Int) - 1) = k by omega]; exact hW5.keep (Only.refl Nobody w5).drew (fun _ _ t => t)
          · rw [if_neg hkT] at hstep
            go_wp2_with (first
              | (go_at_call 10
                 refine hstep.mono ?_
                 rintro e w5 ⟨v5, rfl, hr5, hW5, ho5⟩
                 obtain ⟨A5, c5, rfl, _⟩ := hr5.open))
            have c5' := hcellm _ (ho.trans ho5 (fun _ _ t => t))
            have hkT' : ((k : Int) == 10 + z) = false := by simpa using hkT
            simp only [List.map_nil, List.length_nil] at *
            clear hr5 c1
            go_region
            go_wp2
            go_roundg (gk - 1)
            case measure => exact hk3
            case rel =>
              rw [hk1]
              refine ⟨⟨?_, ?_, (ho.trans ho5 (fun _ _ t => t)).drew⟩, hk2⟩
              · go_num
              · rw [show (((k + 1 : Nat) : Int) - 1) = k by omega]; exact hW5.keep (Only.refl Nobody w5).drew (fun _ _ t => t)
        · have hE0 : ErunM id (10 + z) k = [] := by unfold ErunM; rw [if_neg (by omega)]
          rw [hE0] at hW
          go_wp2_with (first
            | (go_at_call 13
               refine (count_any hW).mono ?_
               rintro e w4 ⟨rfl, rfl⟩
               simp only [List.length_nil]))
          go_ret
          exact ⟨rfl, (ho1.trans ho2 (fun _ _ t => t)).trans ho (fun i hi t => absurd t.1 (by omega))⟩
end Go.GwYtckgjiiogmcbmaa
