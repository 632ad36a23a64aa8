/-
  The walk of WheelEnds. No condition.
-/
import Derived.Test.YtckgjiiogmcbmaaWheelP
import Derived.Test.YtckgjiiogmcbmaaWheelM
namespace Go.GwYtckgjiiogmcbmaa
open Go.RowKit Go.MapKept Go.Maps Go.Proofs
open Go.ChangeMaps (setBlock)
variable {w : World} {lo : Nat}

def Own (lo r : Nat) : Nat → Prop := fun k => InWheel lo k ∨ k = r
/-- both wheels, agreeing. -/
structure Both (w1 : World) (lo r : Nat) (s0 now : Int) (m : Nat) (E : List (Int × Ent)) (L : List (Int × Int)) (wz : World) : Prop where
  wheel : WheelAt wz lo now E
  ref : RefAt wz r L now
  agree : Agree s0 now E L
  ids : ∀ p ∈ E, 0 ≤ p.1 ∧ p.1 < m
  len : E.length ≤ m
  only : Only (Own lo r) w1 wz

structure EndsRel (w1 : World) (lo r : Nat) (s : Int) (k : Nat) (i : Value) (wz : World) : Prop where
  hi : i = .int .i64 k
  ex : ∃ E L, Both w1 lo r s s k E L wz
structure TicksRel (w1 : World) (lo r : Nat) (s : Int) (m k : Nat) (i : Value) (wz : World) : Prop where
  hi : i = .int .i64 k
  ex : ∃ E L now, Both w1 lo r s now m E L wz ∧ now = min (s + k) 2147483647
theorem Both.at0 {w1 : World} {lo r : Nat} {s0 now : Int} {m : Nat} {E : List (Int × Ent)} {L : List (Int × Int)} {wz : World} (h : Both w1 lo r s0 now m E L wz) : ∀ p ∈ E, 0 ≤ p.2.at_ := fun p hp => (bounds_u32 (h.wheel.atwf p hp)).1

set_option maxHeartbeats 2000000 in
theorem ends_walk (below : Int) (A : Option Addr) (n cap : Nat) (zs : List Int) (w : World) (hbl : (Lit.int .u8 below).wf = true) (hz : InRow .u32 w A n zs) :
    Calls Try.prog 3 #[.int .u8 below, .slice A n cap] w fun e w' => e = .returned (.bool true) ∧ Only Nobody w w' := by
  have hbig := hz.big
  obtain ⟨hb0, hb1⟩ := bounds_u8 hbl
  by_cases hn30 : 30 < n
  · unfold maxLen at hbig
    go_enter Try.func3, Try.ntmps3
    go_wp2_with (go_at_call 5; refine (known_any _).mono ?_; rintro e w1 ⟨rfl, ho1⟩)
    go_ret
    exact ⟨rfl, ho1⟩
  clear hbig
  obtain ⟨s, hs⟩ : ∃ s, 2147483647 - below % 10 = s := ⟨_, rfl⟩
  have hs0 : 2147483638 ≤ s := by omega
  have hs1 : s ≤ 2147483647 := by omega
  have hmod : (below.tmod 10) = below % 10 := Int.tmod_eq_emod_of_nonneg hb0
  have hsub : (2147483647 - below % 10) % 4294967296 = s := by omega
  go_enter Try.func3, Try.ntmps3
  go_wp2_with (first
    | (go_at_call 5; refine (known_any _).mono ?_; rintro e w1 ⟨rfl, ho1⟩)
    | (go_at_call 6
       refine (new_any s (by omega) (by omega) _).mono ?_
       rintro e w2 ⟨rfl, hW2, ho2, hs2⟩
       have hlow : w.heap.size ≤ w1.heap.size := ho1.size
       generalize hlo : w1.heap.size = lo at *))
  clear hmod hsub hs hb0 hb1
  have hno : ∀ i, i < w.heap.size → ¬ Own lo (lo + 66) i := fun i hi t => by rcases t with t | t; (have := t.1; omega); omega
  have oa : Only Nobody w w2 := ho1.trans ho2 (fun _ _ t => t)
  have hB0 : Both (w2.alloc (Obj.cells #[Value.slice none 0 0, Value.int IntKind.u32 s] 30)) lo (lo + 66) s s 0 [] [] (w2.alloc (Obj.cells #[Value.slice none 0 0, Value.int IntKind.u32 s] 30)) :=
    ⟨hW2.keep (Only.new1 _ _) (fun _ _ t => t), ⟨⟨_, by have := Cells.new w2 30 #[Value.slice none 0 0, Value.int IntKind.u32 s]; rw [hs2] at this; exact this, RowAt.nil _ _ _⟩, by omega, by omega⟩, Agree.nil s, by simp, by simp, Only.refl _ _⟩
  have ob := oa.trans (Only.new1 w2 (Obj.cells #[Value.slice none 0 0, Value.int IntKind.u32 s] 30)) (fun _ _ t => t)
  clear hW2 ho1 ho2
  generalize w2.alloc (Obj.cells #[Value.slice none 0 0, Value.int IntKind.u32 s] 30) = w3 at hB0 ob ⊢
  go_loopg [8] n (fun gk i wz => EndsRel w3 lo (lo + 66) s (n - gk) i wz ∧ gk ≤ n)
  case atStart => exact ⟨⟨by simp, [], [], by simpa using hB0⟩, Nat.le_refl _⟩
  case round =>
    obtain ⟨⟨rfl, E, L, hB⟩, hle⟩ := hrel
    obtain ⟨k, hk⟩ : ∃ k, n - gk = k := ⟨_, rfl⟩
    rw [hk] at hB ⊢
    clear hB0
    by_cases hkn : k < n
    · obtain ⟨x, rfl, hb, hcell⟩ := hz.ex (by omega)
      have hab : (x.add k).block = x.block := by unfold Addr.add; split <;> rfl
      obtain ⟨z, hzk⟩ : ∃ z, zs.getD k 0 = z := ⟨_, rfl⟩
      have hwf := hz.wf k hkn
      have c1 := hB.only.cell_some (ob.cell_some (hcell k hkn) (fun t => t)) (hno _ (by rw [hab]; exact hb))
      rw [hzk] at c1 hwf
      obtain ⟨hz0, hz1⟩ := bounds_u32 hwf
      have hok : okI k := WalkArith.wf_i64 (by omega)
      have hfresh : ∀ p ∈ E, p.1 ≠ (k : Int) := fun p hp e => by have := (hB.ids p hp).2; omega
      have hlen := hB.len
      have hfreshL : ∀ p ∈ L, p.1 ≠ (k : Int) := by
        intro p hp e
        obtain ⟨q, hq, rfl⟩ := List.mem_map.1 ((hB.agree.perm.mem_iff).2 hp)
        exact hfresh q hq e
      have hLl : L.length < 1000000000 := by have := hB.agree.length; omega
      have hk1 : n - (gk - 1) = k + 1 := by omega
      have hk2 : gk - 1 ≤ n := by omega
      have hk3 : gk - 1 < gk := by omega
      have hw3 := hB.wheel.cells.lt
      clear hcell hzk
      go_wp2_with (first
        | (go_at_call 7
           refine (set_any hB.wheel (k : Int) z hok hz0 (by omega)).mono ?_
           rintro e w4 ⟨rfl, hW4, ho4⟩
           have hR4 := hB.ref.keep ho4 (fun j hj t => by have := t.2; omega)
           have c4 := ho4.cell_some c1 (fun t => by have := t.1; rw [hab] at this; omega))
        | (go_at_call 8
           refine (refSet_new hR4 hLl (k : Int) z hfreshL hok).mono ?_
           rintro e w5 ⟨rfl, q, hq, hR5, ho5⟩
           have hW5 := hW4.keep ho5 (fun j hj t => by have := hj.2; omega)
           have o5 : Only (Own lo (lo + 66)) wr w5 := (ho4.mono (fun _ _ t => .inl t)).trans ho5 (fun _ _ t => .inr t)))
      have hd : kvDel E (k : Int) = E := kvDel_none (kvGet_none.2 hfresh)
      go_roundg (gk - 1)
      case measure => exact hk3
      case rel =>
        rw [hk1]
        refine ⟨⟨by go_num, _, _, hW5, hR5, hB.agree.set k z hfresh hq, ?_, ?_, hB.only.trans o5 (fun _ _ t => t)⟩, hk2⟩
        · rw [hd]
          intro p hp
          rcases List.mem_append.1 hp with hp | hp
          · have := hB.ids p hp; omega
          · simp at hp; subst hp; simp only; omega
        · rw [hd, List.length_append, List.length_singleton]
          omega
    · obtain rfl : k = n := by omega
      clear hk hkn hz
      have hB1 := hB
      go_wp2_with fail
      go_loopg [9] 14 (fun gk i wz => TicksRel w3 lo (lo + 66) s k (14 - gk) i wz ∧ gk ≤ 14)
      case atStart => exact ⟨⟨rfl, E, L, s, hB1, by omega⟩, Nat.le_refl _⟩
      case round =>
        clear hB1 hB
        obtain ⟨⟨rfl, E, L, now, hB, hnow⟩, hle⟩ := hrel
        obtain ⟨j, hj⟩ : ∃ j, 14 - gk = j := ⟨_, rfl⟩
        rw [hj] at hnow ⊢
        have hlen := hB.len
        have hLl : L.length < 1000000000 := by have := hB.agree.length; omega
        have hLE : L.length = E.length := hB.agree.length.symm
        have hrl : lo + 66 < wr.heap.size := by obtain ⟨_, hcc, _⟩ := hB.ref.ex; exact hcc.lt
        by_cases hjn : j < 14
        · have hk1 : 14 - (gk - 1) = j + 1 := by omega
          have hk2 : gk - 1 ≤ 14 := by omega
          have hk3 : gk - 1 < gk := by omega
          by_cases hl : now < 2147483647
          · go_wp2_with (first
              | (go_at_call 10
                 refine (tick_row hB.wheel hl (by omega)).mono ?_
                 rintro e w4 ⟨v4, rfl, hr4, hW4, ho4⟩
                 have hR4 := hB.ref.keep ho4 (fun j hj t => by have := t.2; omega))
              | (go_at_call 11
                 refine (refTick_on hR4 hl hLl).mono ?_
                 rintro e w5 ⟨v5, q, rfl, hq, hr5, hR5, ho5⟩
                 obtain ⟨hdue, hag⟩ := hB.agree.tick (by omega) hB.at0 hq
                 have hW5 := hW4.keep ho5 (fun j hj t => by have := hj.2; omega)
                 rw [hdue] at hr4
                 have hr4' := hr4.keep ho5 (fun j _ hj t => by omega))
              | (go_at_call 9
                 refine (ints_any _ _ hr4' hr5).mono ?_
                 rintro e w6 ⟨rfl, ho6⟩
                 simp only [decide_true]))
            have o6 : Only (Own lo (lo + 66)) wr w6 := ((ho4.mono (fun _ _ t => .inl t)).trans ho5 (fun _ _ t => .inr t)).trans ho6 (fun _ _ t => t.elim)
            have hEE : (dueL (now + 1) E).foldl (fun l x => kvDel l x.1) E = E.filter (fun p => (dueL (now + 1) E).all fun x => x.1 != p.1) := foldl_del _ _
            go_roundg (gk - 1)
            case measure => exact hk3
            case rel =>
              rw [hk1]
              refine ⟨⟨by go_num, _, _, now + 1, ⟨hW5.keep ho6 (fun _ _ t => t), hR5.keep ho6 (fun _ _ t => t), hag, ?_, ?_, hB.only.trans o6 (fun _ _ t => t)⟩, by omega⟩, hk2⟩
              · rw [hEE]; intro p hp; exact hB.ids p (List.mem_filter.1 hp).1
              · rw [hEE]; exact Nat.le_trans (List.length_filter_le _ _) hlen
          · obtain rfl : now = 2147483647 := by omega
            go_wp2_with (first
              | (go_at_call 10
                 refine (tick_end hB.wheel).mono ?_
                 rintro e w4 ⟨rfl, rfl⟩)
              | (go_at_call 11
                 refine (refTick_end hB.ref).mono ?_
                 rintro e w5 ⟨rfl, rfl⟩)
              | (go_at_call 9
                 refine (ints_any [] [] (RowAt.nil _ Nobody 1) (RowAt.nil _ Nobody 1)).mono ?_
                 rintro e w6 ⟨rfl, ho6⟩
                 simp only [decide_true]))
            go_roundg (gk - 1)
            case measure => exact hk3
            case rel =>
              rw [hk1]
              exact ⟨⟨by go_num, E, L, 2147483647, ⟨hB.wheel.keep ho6 (fun _ _ t => t), hB.ref.keep ho6 (fun _ _ t => t), hB.agree, hB.ids, hB.len, hB.only.trans ho6 (fun _ _ t => t.elim)⟩, by omega⟩, hk2⟩
        · obtain rfl : now = 2147483647 := by omega
          clear hnow
          obtain ⟨v, hc, hr⟩ := hB.ref.ex
          obtain ⟨A', cap', rfl, _⟩ := hr.open
          rw [hLE] at hc
          have c0 : wr.drew.cell? ⟨lo + 66, 0, none⟩ = some (.slice A' E.length cap') := hc.cell 0
          have hWd := hB.wheel.keep (Only.refl Nobody wr).drew (fun _ _ t => t)
          go_wp2_with fail
          refine wp_region_lex (fun W => W.cell? ⟨lo + 66, 0, none⟩ = some (.slice A' E.length cap')) [1, 5] (by kernel_rfl) (by kernel_rfl) c0 ?_
          simp only [lexTag, List.contains_cons, List.contains_nil, Nat.reduceAdd, Nat.reduceBEq, Bool.or_false, Bool.false_or, Bool.or_true, Bool.true_or]
          (refine lex_pureK rfl (fun K hK => ?_); apply Exists.intro; refine ⟨fun W hW => ?_, ?_⟩; (have hc1 := hW; go_simp; rfl); simp only [put_lit, put_no, List.set_cons_zero, List.set_cons_succ]; refine hK _ ?_; clear hK K)
          refine lex_eff rfl (fun K hK => ?_)
          go_simp
          refine (now_any hWd).mono ?_
          rintro e w4 ⟨rfl, rfl⟩
          refine hK _ _ c0 ?_
          clear hK K
          iterate 3 (refine lex_pureK rfl (fun K hK => ?_); apply Exists.intro; refine ⟨fun W hW => ?_, ?_⟩; (have hc1 := hW; go_simp; rfl); simp only [put_lit, put_no, List.set_cons_zero, List.set_cons_succ]; refine hK _ ?_; clear hK K)
          refine lex_eff rfl (fun K hK => ?_)
          go_simp
          refine (count_any hWd).mono ?_
          rintro e w4 ⟨rfl, rfl⟩
          refine hK _ _ c0 ?_
          clear hK K
          iterate 8 (refine lex_pureK rfl (fun K hK => ?_); apply Exists.intro; refine ⟨fun W hW => ?_, ?_⟩; (have hc1 := hW; go_simp; rfl); simp only [put_lit, put_no, List.set_cons_zero, List.set_cons_succ]; refine hK _ ?_; clear hK K)
          refine lex_nil ?_
          go_wp2
          go_ret
          exact ⟨rfl, (ob.trans hB.only (fun i hi t => absurd t (hno i hi))).drew⟩
end Go.GwYtckgjiiogmcbmaa
