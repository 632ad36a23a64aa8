/-
  The wheel in memory (WheelAt), and what its Drop, At, Now, Count do. No condition.
-/
import Derived.Test.YtckgjiiogmcbmaaRows
import Derived.Test.YtckgjiiogmcbmaaLex
namespace Go.GwYtckgjiiogmcbmaa
open Go.RowKit Go.MapKept Go.Maps Go.Proofs
open Go.ChangeMaps (setBlock)

/-- the cells of a wheel. -/
def wc (n : Int) (s : List Value) (i : Value) : Array Value := ⟨.int .u32 n :: (s ++ [i])⟩
/-- an entry: when it is due, in which slot it lies. -/
structure Ent where
  at_ : Int
  slot : Nat
  deriving DecidableEq

def ekI (k : Int) : Value := .int .i64 k
def okI (k : Int) : Prop := (Lit.int .i64 k).wf = true
def inOf (E : List (Int × Ent)) : List (Int × Value) := E.map fun p => (p.1, .int .i64 p.2.slot)
def slotOf (E : List (Int × Ent)) (i : Nat) : List (Int × Value) := (E.filter fun p => p.2.slot = i).map fun p => (p.1, .int .u32 p.2.at_)

theorem keyI : Keying Try.prog 3 ekI okI := ⟨int_keyed Try.underlying3, fun k h => ⟨_, keyOf_int_mk Try.underlying3 h⟩, fun a b _ _ h => by simpa [ekI] using h⟩
theorem zeroI (w : World) : (zeroValue 3).run Try.prog w = .ok (.int .i64 0) w := by kernel_rfl
theorem zeroU (w : World) : (zeroValue 24).run Try.prog w = .ok (.int .u32 0) w := by kernel_rfl

/-- block lo: the map of the numbers' slots; lo + 1: the wheel's struct; lo + 2 + i: the i-th slot's map. -/
structure WheelAt (w : World) (lo : Nat) (now : Int) (E : List (Int × Ent)) : Prop where
  cells : Cells w (lo + 1) 47 (wc now ((List.range 64).map fun i => .map (some (lo + 2 + i))) (.map (some lo)))
  ins : MapK w ekI okI lo (inOf E)
  slots : ∀ i, i < 64 → MapK w ekI okI (lo + 2 + i) (slotOf E i)
  now0 : 0 ≤ now
  now1 : now ≤ 2147483647
  small : ∀ p ∈ E, p.2.slot < 64
  atwf : ∀ p ∈ E, (Lit.int .u32 p.2.at_).wf = true

/-- the blocks of a wheel. -/
def InWheel (lo : Nat) : Nat → Prop := fun k => lo ≤ k ∧ k < lo + 66

theorem WheelAt.keep {w w' : World} {lo : Nat} {now : Int} {E : List (Int × Ent)} {S : Nat → Prop} (h : WheelAt w lo now E) (ho : Only S w w') (hS : ∀ k, InWheel lo k → ¬ S k) : WheelAt w' lo now E :=
  ⟨h.cells.keep ho (hS _ ⟨by omega, by omega⟩), h.ins.keep ho (hS _ ⟨by omega, by omega⟩), fun i hi => (h.slots i hi).keep ho (hS _ ⟨by omega, by omega⟩), h.now0, h.now1, h.small, h.atwf⟩

theorem kvGet_map {κ ν μ : Type} [DecidableEq κ] (E : List (κ × ν)) (f : ν → μ) (k : κ) : kvGet (E.map fun p => (p.1, f p.2)) k = (kvGet E k).map f := by
  induction E with
  | nil => rfl
  | cons p l ih => rw [List.map_cons, kvGet_cons, kvGet_cons, ih]; split <;> rfl
theorem kvDel_map {κ ν μ : Type} [DecidableEq κ] (E : List (κ × ν)) (f : ν → μ) (k : κ) : kvDel (E.map fun p => (p.1, f p.2)) k = (kvDel E k).map fun p => (p.1, f p.2) := by
  unfold kvDel
  induction E with
  | nil => rfl
  | cons p l ih =>
    rw [List.map_cons, List.filter_cons, List.filter_cons]
    by_cases h : p.1 = k
    · rw [if_neg (by simp [h]), if_neg (by simp [h])]; exact ih
    · rw [if_pos (by simp [h]), if_pos (by simp [h]), List.map_cons, ih]

theorem wc_now (n : Int) (s : List Value) (i : Value) : (wc n s i)[0]? = some (.int .u32 n) := rfl
theorem wc_slot (n : Int) (lo : Nat) (v : Value) (i : Nat) (hi : i < 64) : (wc n ((List.range 64).map fun i => .map (some (lo + 2 + i))) v)[1 + i]? = some (.map (some (lo + 2 + i))) := by
  unfold wc
  rw [Nat.add_comm 1 i]
  simp [List.getElem?_append, hi]
theorem wc_in (n : Int) (lo : Nat) (v : Value) : (wc n ((List.range 64).map fun i => .map (some (lo + 2 + i))) v)[65]? = some v := by
  unfold wc
  simp [List.getElem?_append]
theorem wc_size (n : Int) (lo : Nat) (v : Value) : (wc n ((List.range 64).map fun i => .map (some (lo + 2 + i))) v).size = 66 := by
  unfold wc
  simp

variable {w : World} {lo : Nat} {now : Int} {E : List (Int × Ent)}

theorem now_any (h : WheelAt w lo now E) : Calls Try.prog 12 #[.pointer (some ⟨lo + 1, 0, none⟩)] w fun e w' => e = .returned (.int .u32 now) ∧ w = w' := by
  have c0 := h.cells.cell 0
  rw [wc_now] at c0
  go_enter Try.func12, Try.ntmps12
  go_wp2
  go_ret
  exact ⟨rfl, rfl⟩

theorem count_any (h : WheelAt w lo now E) : Calls Try.prog 13 #[.pointer (some ⟨lo + 1, 0, none⟩)] w fun e w' => e = .returned (.int .i64 E.length) ∧ w = w' := by
  have c0 := h.cells.cell 65
  rw [wc_in] at c0
  have hl : (inOf E).length = E.length := by simp [inOf]
  go_enter Try.func13, Try.ntmps13
  go_wp2_with (with_reducible refine l_len_map 43 3 3 Try.underlying43 h.ins ?_)
  go_ret
  exact ⟨rfl, rfl⟩

theorem WheelAt.get_in (E : List (Int × Ent)) (id : Int) : kvGet (inOf E) id = (kvGet E id).map fun x => .int .i64 x.slot := kvGet_map E (fun x => Value.int .i64 x.slot) id

theorem drop_no (h : WheelAt w lo now E) (id : Int) (hid : okI id) (hg : kvGet E id = none) : Calls Try.prog 15 #[.pointer (some ⟨lo + 1, 0, none⟩), .int .i64 id] w fun e w' =>
    e = .returned (.bool false) ∧ w = w' := by
  have c65 := h.cells.cell 65
  rw [wc_in] at c65
  have hin : kvGet (inOf E) id = none := by rw [WheelAt.get_in, hg]; rfl
  go_enter Try.func15, Try.ntmps15
  go_wp2_with (with_reducible refine l_lookup_ok 43 3 3 id none hin _ hid keyI Try.underlying43 h.ins (zeroI _) ?_)
  go_ret
  exact ⟨rfl, rfl⟩

theorem kvDel_filter (E : List (Int × Ent)) (id : Int) (i : Nat) : kvDel (slotOf E i) id = slotOf (kvDel E id) i := by
  unfold slotOf
  rw [kvDel_map (E.filter fun p => p.2.slot = i) (fun x => Value.int .u32 x.at_) id]
  congr 1
  unfold kvDel
  rw [List.filter_filter, List.filter_filter]
  apply List.filter_congr
  intro p _
  exact Bool.and_comm _ _
theorem inOf_del (E : List (Int × Ent)) (id : Int) : kvDel (inOf E) id = inOf (kvDel E id) := kvDel_map E (fun x => Value.int .i64 x.slot) id
theorem slotOf_del_other (hn : (E.map (·.1)).Nodup) {id : Int} {x : Ent} (hg : kvGet E id = some x) {i : Nat} (hi : i ≠ x.slot) : slotOf (kvDel E id) i = slotOf E i := by
  rw [← kvDel_filter]
  apply kvDel_none
  apply kvGet_none.2
  intro p hp e
  obtain ⟨q, hq, rfl⟩ := List.mem_map.1 hp
  obtain ⟨hq1, hq2⟩ := List.mem_filter.1 hq
  simp only at e
  have := kvGet_of_mem hn (k := q.1) (v := q.2) hq1
  rw [e, hg] at this
  cases this
  simp at hq2
  exact hi hq2.symm
theorem WheelAt.nodup (h : WheelAt w lo now E) : (E.map (·.1)).Nodup := by
  have := h.ins.nodup keyI
  simpa [inOf, Function.comp_def] using this

theorem drop_yes (h : WheelAt w lo now E) (id : Int) (hid : okI id) (x : Ent) (hg : kvGet E id = some x) : Calls Try.prog 15 #[.pointer (some ⟨lo + 1, 0, none⟩), .int .i64 id] w fun e w' =>
    e = .returned (.bool true) ∧ WheelAt w' lo now (kvDel E id) ∧ Only (InWheel lo) w w' := by
  have c65 := h.cells.cell 65
  rw [wc_in] at c65
  have hin : kvGet (inOf E) id = some (.int .i64 x.slot) := by rw [WheelAt.get_in, hg]; rfl
  have hx := h.small _ (kvGet_mem hg)
  simp only at hx
  have hxi : (x.slot : Int) < 64 := by omega
  have cs := h.cells.cell (1 + x.slot)
  rw [wc_slot _ _ _ _ hx] at cs
  have hn := h.nodup
  have hlt := h.ins.lt
  go_enter Try.func15, Try.ntmps15
  go_wp2_with (first
    | (with_reducible refine l_lookup_ok 43 3 3 id _ hin _ hid keyI Try.underlying43 h.ins (zeroI _) ?_)
    | ((with_reducible refine l_delete 44 3 24 id hid keyI Try.underlying44 (h.slots _ hx) (fun o1 hm1 => ?_))
       have on1 : Only (fun k => k = lo + 2 + x.slot) w (setBlock w (lo + 2 + x.slot) o1) := Only.block1 _ _ _
       have c65a := on1.cell_some c65 (fun e => by simp only at e; omega))
    | (with_reducible refine l_delete 43 3 3 id hid keyI Try.underlying43 (h.ins.keep on1 (by omega)) (fun o2 hm2 => ?_)))
  go_ret
  have on2 : Only (fun k => k = lo) (setBlock w (lo + 2 + x.slot) o1) (setBlock (setBlock w (lo + 2 + x.slot) o1) lo o2) := Only.block1 _ _ _
  have on : Only (InWheel lo) w (setBlock (setBlock w (lo + 2 + x.slot) o1) lo o2) :=
    (on1.mono (fun k _ hk => by subst hk; exact ⟨by omega, by omega⟩)).trans on2 (fun k _ hk => by subst hk; exact ⟨by omega, by omega⟩)
  refine ⟨rfl, ⟨(h.cells.keep on1 (by omega)).keep on2 (by omega), by rw [← inOf_del]; exact hm2, fun i hi => ?_, h.now0, h.now1, fun p hp => h.small p (List.mem_filter.1 hp).1, fun p hp => h.atwf p (List.mem_filter.1 hp).1⟩, on⟩
  by_cases hs : i = x.slot
  · subst hs
    rw [← kvDel_filter]
    exact hm1.keep on2 (by omega)
  · rw [slotOf_del_other hn hg hs]
    exact ((h.slots i hi).keep on1 (by omega)).keep on2 (by omega)

theorem drop_any (h : WheelAt w lo now E) (id : Int) (hid : okI id) : Calls Try.prog 15 #[.pointer (some ⟨lo + 1, 0, none⟩), .int .i64 id] w fun e w' =>
    e = .returned (.bool (kvGet E id).isSome) ∧ WheelAt w' lo now (kvDel E id) ∧ Only (InWheel lo) w w' := by
  cases hg : kvGet E id with
  | none => exact (drop_no h id hid hg).mono fun e w' ⟨he, hw⟩ => by subst hw; rw [kvDel_none hg]; exact ⟨he, h, Only.refl _ _⟩
  | some x => exact drop_yes h id hid x hg

theorem at_any (h : WheelAt w lo now E) (id : Int) (hid : okI id) : Calls Try.prog 14 #[.pointer (some ⟨lo + 1, 0, none⟩), .int .i64 id] w fun e w' =>
    e = .returned (.tuple #[.int .u32 (((kvGet E id).map (·.at_)).getD 0), .bool (kvGet E id).isSome]) ∧ w = w' := by
  have c65 := h.cells.cell 65
  rw [wc_in] at c65
  cases hg : kvGet E id with
  | none =>
    have hin : kvGet (inOf E) id = none := by rw [WheelAt.get_in, hg]; rfl
    go_enter Try.func14, Try.ntmps14
    go_wp2_with (at_lookup; go_must (with_reducible refine l_lookup_ok 43 3 3 id none hin _ hid keyI Try.underlying43 h.ins (zeroI _) ?_))
    go_ret2
    exact ⟨rfl, rfl⟩
  | some x =>
    have hin : kvGet (inOf E) id = some (.int .i64 x.slot) := by rw [WheelAt.get_in, hg]; rfl
    have hx := h.small _ (kvGet_mem hg)
    simp only at hx
    have hxi : (x.slot : Int) < 64 := by omega
    have cs := h.cells.cell (1 + x.slot)
    rw [wc_slot _ _ _ _ hx] at cs
    have hsl : kvGet (slotOf E x.slot) id = some (.int .u32 x.at_) := by
      apply kvGet_of_mem ((h.slots _ hx).nodup keyI)
      exact List.mem_map.2 ⟨(id, x), List.mem_filter.2 ⟨kvGet_mem hg, by simp⟩, rfl⟩
    have hs := h.slots _ hx
    go_enter Try.func14, Try.ntmps14
    go_wp2_with (first
      | (at_lookup; (with_reducible refine l_lookup_ok 43 3 3 id _ hin _ hid keyI Try.underlying43 h.ins (zeroI _) ?_))
      | (at_lookup; (with_reducible refine l_lookup 44 3 24 id _ hsl _ hid keyI Try.underlying44 hs (zeroU _) ?_)))
    go_ret2
    exact ⟨rfl, rfl⟩

/-- the slot that a number due at n lies in. -/
def slotAt (now n : Int) : Nat := (max n (now + 1) % 64).toNat
theorem kvGet_del_self (E : List (Int × Ent)) (id : Int) : kvGet (kvDel E id) id = none := by rw [kvGet_del]; simp
theorem inOf_set (E : List (Int × Ent)) (id n : Int) (sl : Nat) : kvSet (inOf (kvDel E id)) id (.int .i64 sl) = inOf (kvDel E id ++ [(id, ⟨n, sl⟩)]) := by
  unfold kvSet
  rw [WheelAt.get_in, kvGet_del_self]
  simp [inOf]
theorem slotOf_set (E : List (Int × Ent)) (id n : Int) (sl : Nat) : kvSet (slotOf (kvDel E id) sl) id (.int .u32 n) = slotOf (kvDel E id ++ [(id, ⟨n, sl⟩)]) sl := by
  have h : kvGet (slotOf (kvDel E id) sl) id = none := by
    apply kvGet_none.2
    intro p hp e
    obtain ⟨q, hq, rfl⟩ := List.mem_map.1 hp
    exact kvGet_none.1 (kvGet_del_self E id) q (List.mem_filter.1 hq).1 e
  unfold kvSet
  rw [h]
  simp [slotOf, List.filter_append]
theorem slotOf_snoc_other (E : List (Int × Ent)) (id n : Int) (sl i : Nat) (hi : i ≠ sl) : slotOf (E ++ [(id, ⟨n, sl⟩)]) i = slotOf E i := by
  simp [slotOf, List.filter_append, List.filter_cons, Ne.symm hi]

set_option maxHeartbeats 800000 in
theorem set_any (h : WheelAt w lo now E) (id n : Int) (hid : okI id) (h0 : 0 ≤ n) (h1 : n < 4294967296) : Calls Try.prog 7 #[.pointer (some ⟨lo + 1, 0, none⟩), .int .i64 id, .int .u32 n] w fun e w' =>
    e = .returned (.tuple #[]) ∧ WheelAt w' lo now (kvDel E id ++ [(id, ⟨n, slotAt now n⟩)]) ∧ Only (InWheel lo) w w' := by
  have hn0 := h.now0
  have hn1 := h.now1
  obtain ⟨sl, hsl⟩ : ∃ sl, slotAt now n = sl := ⟨_, rfl⟩
  have hsx : sl < 64 := by unfold slotAt at hsl; omega
  have hsi : (sl : Int) < 64 := by omega
  rcases (show (n < now + 1 ∧ (now + 1) % 64 = (sl : Int)) ∨ (now + 1 ≤ n ∧ n % 64 = (sl : Int)) by unfold slotAt at hsl; omega) with ⟨hm, hmi⟩ | ⟨hm, hmi⟩
  all_goals
    go_enter Try.func7, Try.ntmps7
    go_wp2_with (first
      | (go_at_call 15
         refine (drop_any h id hid).mono ?_
         rintro e w1 ⟨rfl, h2, o1⟩
         have c0 := h2.cells.cell 0
         rw [wc_now] at c0))
    have c65 := h2.cells.cell 65
    rw [wc_in] at c65
    have cs := h2.cells.cell (1 + sl)
    rw [wc_slot _ _ _ _ hsx] at cs
    have ms : MapK w1.drew _ _ _ _ := h2.slots sl hsx
    have mi : MapK w1.drew _ _ _ _ := h2.ins
    clear hmi
    refine wp_region_lex (fun W => W.cell? ⟨lo + 1, 1 + sl, none⟩ = some (.map (some (lo + 2 + sl))) ∧ W.cell? ⟨lo + 1, 65, none⟩ = some (.map (some lo))) [14, 16, 17, 19] (by kernel_rfl) (by kernel_rfl) ⟨cs, c65⟩ ?_
    simp only [lexTag, List.contains_cons, List.contains_nil, Nat.reduceAdd, Nat.reduceBEq, Bool.or_false, Bool.false_or, Bool.or_true, Bool.true_or]
    iterate 14 (refine lex_pureK rfl (fun K hK => ?_); apply Exists.intro; refine ⟨fun W hW => ?_, ?_⟩; (obtain ⟨hc1, hc2⟩ := hW; go_simp; rfl); simp only [put_lit, put_no, List.set_cons_zero, List.set_cons_succ]; refine hK _ ?_; clear hK K)
    refine lex_eff rfl (fun K hK => ?_)
    refine wp_mapEntry 44 3 24 id _ hid keyI Try.underlying44 ms (zeroU _) (fun ob1 st1 he1 => ?_)
    have p1 := Only.block1 w1.drew (lo + 2 + sl) ob1
    have d1 := p1.cell_some (p := ⟨lo + 1, 1 + sl, none⟩) cs (fun e => by simp only at e; omega)
    have d2 := p1.cell_some (p := ⟨lo + 1, 65, none⟩) c65 (fun e => by simp only at e; omega)
    simp only [put_lit, put_no, List.set_cons_zero, List.set_cons_succ]
    refine hK _ _ ⟨d1, d2⟩ ?_
    clear hK K
    (refine lex_pureK rfl (fun K hK => ?_); apply Exists.intro; refine ⟨fun W hW => ?_, ?_⟩; (obtain ⟨hc1, hc2⟩ := hW; go_simp; rfl); simp only [put_lit, put_no, List.set_cons_zero, List.set_cons_succ]; refine hK _ ?_; clear hK K)
    refine lex_eff rfl (fun K hK => ?_)
    refine wp_entryStore 44 id st1 he1 (fun ob2 v2 hv2 hm2 => ?_)
    obtain rfl : v2 = .int .u32 n := hv2
    have p2 := Only.block1 (setBlock w1.drew (lo + 2 + sl) ob1) (lo + 2 + sl) ob2
    have e1 := p2.cell_some d1 (fun e => by simp only at e; omega)
    have e2 := p2.cell_some d2 (fun e => by simp only at e; omega)
    refine hK _ _ ⟨e1, e2⟩ ?_
    clear hK K
    refine lex_eff rfl (fun K hK => ?_)
    refine wp_mapEntry 43 3 3 id _ hid keyI Try.underlying43 ((mi.keep p1 (by omega)).keep p2 (by omega)) (zeroI _) (fun ob3 st3 he3 => ?_)
    have p3 := Only.block1 (setBlock (setBlock w1.drew (lo + 2 + sl) ob1) (lo + 2 + sl) ob2) lo ob3
    have f1 := p3.cell_some e1 (fun e => by simp only at e; omega)
    have f2 := p3.cell_some e2 (fun e => by simp only at e; omega)
    simp only [put_lit, put_no, List.set_cons_zero, List.set_cons_succ]
    refine hK _ _ ⟨f1, f2⟩ ?_
    clear hK K
    (refine lex_pureK rfl (fun K hK => ?_); apply Exists.intro; refine ⟨fun W hW => ?_, ?_⟩; (obtain ⟨hc1, hc2⟩ := hW; go_simp; rfl); simp only [put_lit, put_no, List.set_cons_zero, List.set_cons_succ]; refine hK _ ?_; clear hK K)
    refine lex_eff rfl (fun K hK => ?_)
    refine wp_entryStore 43 id st3 he3 (fun ob4 v4 hv4 hm4 => ?_)
    obtain rfl : v4 = .int .i64 sl := hv4
    have p4 := Only.block1 (setBlock (setBlock (setBlock w1.drew (lo + 2 + sl) ob1) (lo + 2 + sl) ob2) lo ob3) lo ob4
    have g1 := p4.cell_some f1 (fun e => by simp only at e; omega)
    have g2 := p4.cell_some f2 (fun e => by simp only at e; omega)
    refine hK _ _ ⟨g1, g2⟩ ?_
    clear hK K
    refine lex_nil ?_
    go_end0
    have hd : WheelAt w1.drew lo now (kvDel E id) := ⟨h2.cells, h2.ins, h2.slots, h2.now0, h2.now1, h2.small, h2.atwf⟩
    have pin : ∀ {a b : World} {o : Nat}, InWheel lo o → Only (fun k => k = o) a b → Only (InWheel lo) a b := fun ho h => h.mono (fun k _ hk => by subst hk; exact ho)
    have pa := (((pin ⟨by omega, by omega⟩ p1).trans (pin ⟨by omega, by omega⟩ p2) (fun _ _ t => t)).trans (pin ⟨by omega, by omega⟩ p3) (fun _ _ t => t)).trans (pin ⟨by omega, by omega⟩ p4) (fun _ _ t => t)
    refine ⟨rfl, ⟨(((hd.cells.keep p1 (by omega)).keep p2 (by omega)).keep p3 (by omega)).keep p4 (by omega), by rw [hsl, ← inOf_set]; exact hm4, fun i hi => ?_, h.now0, h.now1, ?_, ?_⟩, (o1.drew).trans pa (fun _ _ t => t)⟩
    · by_cases hi2 : i = sl
      · subst hi2
        rw [hsl, ← slotOf_set]
        exact (hm2.keep p3 (by omega)).keep p4 (by omega)
      · rw [hsl, slotOf_snoc_other _ _ _ _ _ hi2]
        exact ((((hd.slots i hi).keep p1 (by omega)).keep p2 (by omega)).keep p3 (by omega)).keep p4 (by omega)
    · intro p hp
      rcases List.mem_append.1 hp with hp | hp
      · exact h2.small p hp
      · simp only [List.mem_singleton] at hp
        subst hp
        simp only [hsl]
        exact hsx
    · intro p hp
      rcases List.mem_append.1 hp with hp | hp
      · exact h2.atwf p hp
      · simp only [List.mem_singleton] at hp
        subst hp
        have : n ≤ 4294967295 := by omega
        exact WalkArith.wf_u32 ⟨h0, this⟩
end Go.GwYtckgjiiogmcbmaa
