/-
  The statements' own wheel: its Set of a new number, its Tick. No condition but that it holds fewer than 10^9 numbers.
-/
import Derived.Test.YtckgjiiogmcbmaaWheelE
import Derived.OpenShut
namespace Go.GwYtckgjiiogmcbmaa
open Go.RowKit Go.MapKept Go.Maps Go.Proofs Go.Sort
open Go.ChangeMaps (setBlock)
variable {w : World} {r : Nat} {now : Int} {L : List (Int × Int)}

/-- block r: the struct; its list lies behind it. -/
structure RefAt (w : World) (r : Nat) (L : List (Int × Int)) (now : Int) : Prop where
  ex : ∃ v, Cells w r 30 #[v, .int .u32 now] ∧ RowAt w (fun k => r < k) 2 v L.length (L.flatMap encD)
  n0 : 0 ≤ now
  n1 : now ≤ 2147483647

theorem RefAt.keep {w' : World} {S : Nat → Prop} (h : RefAt w r L now) (ho : Only S w w') (hS : ∀ k, r ≤ k → ¬ S k) : RefAt w' r L now := by
  obtain ⟨v, h1, h2⟩ := h.ex
  exact ⟨⟨v, h1.keep ho (hS _ (Nat.le_refl _)), h2.keep ho (fun k _ hk => hS k (by omega))⟩, h.n0, h.n1⟩

theorem elemR : ElemT Try.prog 28 49 2 16 := by
  have infoR : (Try.prog.info? 49).map (fun i => (i.zero, i.size, i.bytes)) = some (some (.agg #[.int .i64 0, .int .u32 0]), 2, 16) := by kernel_rfl
  obtain ⟨i, h1, h2, h3, h4⟩ := info_parts infoR
  exact ⟨Try.underlying28, ⟨i, _, h1, h2, h3, h4, rfl⟩, by decide, by decide⟩

set_option maxHeartbeats 1000000 in
theorem refDrop_no (h : RefAt w r L now) (hL : L.length < 1000000000) (id : Int) (hid : ∀ p ∈ L, p.1 ≠ id) : Calls Try.prog 16 #[.pointer (some ⟨r, 0, none⟩), .int .i64 id] w fun e w' =>
    e = .returned (.bool false) ∧ Only Nobody w w' := by
  obtain ⟨v, hc, hr⟩ := h.ex
  obtain ⟨A, cap, rfl, _, _, hA⟩ := hr.open
  have c0 : w.cell? ⟨r, 0, none⟩ = some (.slice A L.length cap) := hc.cell 0
  go_enter Try.func16, Try.ntmps16
  go_wp2
  go_loopg [5] L.length (fun gk i wz => i = .int .i64 ((L.length - gk : Nat) : Int) ∧ gk ≤ L.length ∧ wz = w)
  case atStart => exact ⟨by simp, Nat.le_refl _, rfl⟩
  case round =>
    obtain ⟨rfl, hle, rfl⟩ := hrel
    obtain ⟨k, hk⟩ : ∃ k, L.length - gk = k := ⟨_, rfl⟩
    rw [hk]
    by_cases hkn : k < L.length
    · obtain ⟨g, o, rfl, _, _, hgc⟩ := hA (by omega)
      obtain ⟨x, hx⟩ : ∃ x, L[k]? = some x := ⟨_, List.getElem?_eq_getElem hkn⟩
      have hne := hid x (List.mem_of_getElem? hx)
      obtain ⟨x1, x2⟩ := x
      have e0 := hgc (k * 2) (.int .i64 x1) (flat2 hx).1
      have e1 := hgc (k * 2 + 1) (.int .u32 x2) (flat2 hx).2
      have hne' : (x1 == id) = false := by simpa using hne
      clear hgc hA
      have hk1 : L.length - (gk - 1) = k + 1 := by omega
      have hk2 : gk - 1 ≤ L.length := by omega
      have hk3 : gk - 1 < gk := by omega
      go_wp2
      go_roundg (gk - 1)
      case measure => exact hk3
      case rel => exact ⟨by rw [hk1]; go_num, hk2, rfl⟩
    · go_wp2
      go_ret
      exact ⟨rfl, Only.refl _ _⟩

def leD (y x : Int × Int) : Prop := y.2 < x.2 ∨ (y.2 = x.2 ∧ y.1 < x.1)
/-- the first k come ahead of x, the next does not. -/
structure InsAt (L : List (Int × Int)) (x : Int × Int) (k : Nat) : Prop where
  le : k ≤ L.length
  lt : ∀ y ∈ L.take k, leD y x
  ge : ∀ y, L[k]? = some y → ¬ leD y x
structure InsRel (L : List (Int × Int)) (x : Int × Int) (k : Nat) (i : Value) : Prop where
  hi : i = .int .i64 k
  le : k ≤ L.length
  lt : ∀ y ∈ L.take k, leD y x
theorem InsRel.next {x : Int × Int} {k : Nat} {i j : Value} (h : InsRel L x k i) {y : Int × Int} (hy : L[k]? = some y) (hl : leD y x) (hj : j = .int .i64 ((k + 1 : Nat) : Int)) : InsRel L x (k + 1) j := by
  refine ⟨hj, (List.getElem?_eq_some_iff.1 hy).1, fun z hz => ?_⟩
  rw [List.take_add_one, hy] at hz
  simp at hz
  rcases hz with hz | rfl
  · exact h.lt z hz
  · exact hl

theorem ref_next (L : List (Int × Int)) (id n : Int) (k : Nat) : (¬ k < L.length ∧ (∀ y, L[k]? = some y → ¬ leD y (id, n))) ∨ (∃ x1 x2, k < L.length ∧ L[k]? = some (x1, x2) ∧ x2 < n) ∨ (∃ x1 x2, k < L.length ∧ L[k]? = some (x1, x2) ∧ n = x2 ∧ ¬ x2 < x2 ∧ x1 < id) ∨
    (∃ x1 x2, k < L.length ∧ L[k]? = some (x1, x2) ∧ ¬ x2 < n ∧ (x2 == n) = false ∧ (∀ y, L[k]? = some y → ¬ leD y (id, n))) ∨ (∃ x1 x2, k < L.length ∧ L[k]? = some (x1, x2) ∧ n = x2 ∧ ¬ x2 < x2 ∧ ¬ x1 < id ∧ (∀ y, L[k]? = some y → ¬ leD y (id, x2))) := by
  by_cases hkn : k < L.length
  · obtain ⟨⟨x1, x2⟩, hx⟩ : ∃ x, L[k]? = some x := ⟨_, List.getElem?_eq_getElem hkn⟩
    by_cases h1 : x2 < n
    · exact .inr (.inl ⟨x1, x2, hkn, hx, h1⟩)
    · by_cases h2 : n = x2
      · subst h2
        by_cases h3 : x1 < id
        · exact .inr (.inr (.inl ⟨x1, n, hkn, hx, rfl, h1, h3⟩))
        · exact .inr (.inr (.inr (.inr ⟨x1, n, hkn, hx, rfl, h1, h3, fun y hy => by rw [hx] at hy; cases hy; unfold leD; simp only; omega⟩)))
      · exact .inr (.inr (.inr (.inl ⟨x1, x2, hkn, hx, h1, by simp; omega, fun y hy => by rw [hx] at hy; cases hy; unfold leD; simp only; omega⟩)))
  · exact .inl ⟨hkn, fun y hy => absurd (List.getElem?_eq_some_iff.1 hy).1 hkn⟩

theorem one_flat {L : List (Int × Int)} (u : Value) (h : u ∈ L.flatMap encD) : u.oneCell' = true := by
  obtain ⟨x, _, hu⟩ := List.mem_flatMap.1 h
  exact oneD x u hu
theorem flat_take (L : List (Int × Int)) (k : Nat) : (L.flatMap encD).take (k * 2) = (L.take k).flatMap encD := by
  induction L generalizing k with
  | nil => simp
  | cons y l ih =>
    cases k with
    | zero => simp
    | succ k =>
      rw [List.flatMap_cons, List.take_succ_cons, List.flatMap_cons, ← ih k, show (k + 1) * 2 = k * 2 + 2 by omega]
      simp [encD]
theorem flat_drop (L : List (Int × Int)) (k : Nat) : (L.flatMap encD).drop (k * 2) = (L.drop k).flatMap encD := by
  induction L generalizing k with
  | nil => simp
  | cons y l ih =>
    cases k with
    | zero => simp
    | succ k =>
      rw [List.flatMap_cons, List.drop_succ_cons, ← ih k, show (k + 1) * 2 = k * 2 + 2 by omega]
      simp [encD]
set_option maxHeartbeats 4000000 in
theorem refSet_new (h : RefAt w r L now) (hL : L.length < 1000000000) (id n : Int) (hid : ∀ p ∈ L, p.1 ≠ id) (hi : okI id) : Calls Try.prog 8 #[.pointer (some ⟨r, 0, none⟩), .int .i64 id, .int .u32 n] w fun e w' =>
    e = .returned (.tuple #[]) ∧ ∃ k, InsAt L (id, n) k ∧ RefAt w' r (L.take k ++ (id, n) :: L.drop k) now ∧ Only (fun k => k = r) w w' := by
  go_enter Try.func8, Try.ntmps8
  go_wp2_with (first
    | (go_at_call 16
       refine (refDrop_no h hL id hid).mono ?_
       rintro e w1 ⟨rfl, ho1⟩))
  have h1 := h.keep ho1 (fun _ _ t => t)
  obtain ⟨v, hc, hr⟩ := h1.ex
  obtain ⟨A, cap, rfl, _, hmax, hA⟩ := hr.open
  unfold maxLen at hmax
  have c0 : w1.cell? ⟨r, 0, none⟩ = some (.slice A L.length cap) := hc.cell 0
  go_loopg [6] L.length (fun gk i wz => InsRel L (id, n) (L.length - gk) i ∧ gk ≤ L.length ∧ wz = w1)
  case atStart => exact ⟨⟨by simp, by omega, by simp⟩, Nat.le_refl _, rfl⟩
  case round =>
    obtain ⟨hI, hle, rfl⟩ := hrel
    obtain ⟨k, hk⟩ : ∃ k, L.length - gk = k := ⟨_, rfl⟩
    rw [hk] at hI
    obtain rfl := hI.hi
    have hk1 : k < L.length → L.length - (gk - 1) = k + 1 := fun h => by omega
    have hk2 : gk - 1 ≤ L.length := by omega
    have hk3 : k < L.length → gk - 1 < gk := fun h => by omega
    have hkl : k ≤ L.length := hI.le
    have hcell : ∀ x1 x2, L[k]? = some (x1, x2) → ∃ g o, A = some ⟨g, o, none⟩ ∧ wr.cell? ⟨g, o + k * 2, none⟩ = some (.int .i64 x1) ∧ wr.cell? ⟨g, o + k * 2 + 1, none⟩ = some (.int .u32 x2) := fun x1 x2 hx => by
      obtain ⟨g, o, rfl, _, _, hgc⟩ := hA (by have := (List.getElem?_eq_some_iff.1 hx).1; omega)
      exact ⟨g, o, rfl, hgc (k * 2) _ (flat2 hx).1, by rw [Nat.add_assoc]; exact hgc (k * 2 + 1) _ (flat2 hx).2⟩
    clear hA
    rcases ref_next L id n k with ⟨hlen, hstop⟩ | ⟨x1, x2, hkn, hx, hlt⟩ | ⟨x1, x2, hkn, hx, rfl, hge, hlt⟩ | ⟨x1, x2, hkn, hx, hge, hne, hstop⟩ | ⟨x1, x2, hkn, hx, rfl, hge, hlt, hstop⟩
    rotate_left
    · obtain ⟨g, o, rfl, e0, e1⟩ := hcell _ _ hx
      have hI' := hI.next hx (.inl hlt) rfl
      clear hcell
      go_wp2
      go_roundg (gk - 1)
      case measure => exact hk3 hkn
      case rel => rw [hk1 hkn]; exact ⟨by simpa using hI', hk2, rfl⟩
    · obtain ⟨g, o, rfl, e0, e1⟩ := hcell _ _ hx
      have hI' := hI.next hx (.inr ⟨rfl, hlt⟩) rfl
      clear hcell
      go_wp2
      go_roundg (gk - 1)
      case measure => exact hk3 hkn
      case rel => rw [hk1 hkn]; exact ⟨by simpa using hI', hk2, rfl⟩
    case' inr.inr.inr.inl => obtain ⟨g, o, rfl, e0, e1⟩ := hcell _ _ hx
    case' inr.inr.inr.inr => obtain ⟨g, o, rfl, e0, e1⟩ := hcell _ _ hx
    all_goals clear hcell
    all_goals go_wp2_with fail
    all_goals (
      have o0 : Only Nobody wr wr.drew := (Only.refl _ _).drew
      replace hc := hc.keep o0 (fun t => t)
      replace hr := hr.keep o0 (fun _ _ _ t => t)
      replace c0 := o0.cell_some c0 (fun t => t)
      refine wp_region_lexl (fun W => W.cell? ⟨r, 0, none⟩ = some (.slice _ L.length cap)) [11, 18, 19, 22] (by kernel_rfl) (by kernel_rfl) (by kernel_rfl) c0 ?_
      simp only [lexTag, List.contains_cons, List.contains_nil, Nat.reduceAdd, Nat.reduceBEq, Bool.or_false, Bool.false_or, Bool.or_true, Bool.true_or]
      iterate 7 (refine lex_pureK rfl (fun K hK => ?_); apply Exists.intro; refine ⟨fun W hW => ?_, ?_⟩; (have hc1 := hW; go_simp; rfl); simp only [put_lit, put_no, List.set_cons_zero, List.set_cons_succ]; refine hK _ ?_; clear hK K)
      refine lex_pureK rfl (fun K hK => ?_)
      refine ⟨_, fun W hW => exec_slice_to (size := 2) (n := L.length) (cap := cap) (k := k) (by kernel_rfl) (by kernel_rfl) (by omega), ?_⟩
      simp only [put_lit, put_no, List.set_cons_zero, List.set_cons_succ]; refine hK _ ?_; clear hK K
      iterate 3 (refine lex_pureK rfl (fun K hK => ?_); apply Exists.intro; refine ⟨fun W hW => ?_, ?_⟩; (have hc1 := hW; go_simp; rfl); simp only [put_lit, put_no, List.set_cons_zero, List.set_cons_succ]; refine hK _ ?_; clear hK K)
      refine lex_eff rfl (fun K hK => ?_)
      have o1 : Only Nobody wr.drew (wr.drew.alloc (.cells (encD (id, n)).toArray 49)) := Only.new1 _ _
      go_simp
      refine hK _ _ (o1.cell_some c0 (fun t => t)) ?_
      clear hK K
      iterate 5 (refine lex_pureK rfl (fun K hK => ?_); apply Exists.intro; refine ⟨fun W hW => ?_, ?_⟩; (have hc1 := hW; go_simp; rfl); simp only [put_lit, put_no, List.set_cons_zero, List.set_cons_succ]; refine hK _ ?_; clear hK K)
      refine lex_pureK rfl (fun K hK => ?_)
      refine ⟨_, fun W hW => exec_slice_from (size := 2) (n := L.length) (cap := cap) (k := k) (by kernel_rfl) (by kernel_rfl) hkl, ?_⟩
      simp only [put_lit, put_no, List.set_cons_zero, List.set_cons_succ]; refine hK _ ?_; clear hK K
      refine lex_eff rfl (fun K hK => ?_)
      refine wp_append_row elemR (RowAt.built wr.drew 49 2 1 (encD (id, n)) rfl (by unfold maxLen; omega)) ((hr.keep o1 (fun _ _ _ t => t)).sliced_from k hkl) (fun u hu => one_flat u (List.mem_of_mem_drop hu)) (by omega) (fun v2 w2 hr2 ho2 => ?_)
      simp only [put_lit, put_no, List.set_cons_zero, List.set_cons_succ]
      refine hK _ _ (ho2.cell_some (o1.cell_some c0 (fun t => t)) (fun t => t)) ?_
      clear hK K
      refine lex_eff rfl (fun K hK => ?_)
      refine wp_append_row elemR (((hr.keep o1 (fun _ _ _ t => t)).keep ho2 (fun _ _ _ t => t)).sliced_to k hkl) hr2 (fun u hu => by rcases List.mem_append.1 hu with hu | hu; exact oneD _ u hu; exact one_flat u (List.mem_of_mem_drop hu)) (by omega) (fun v3 w3 hr3 ho3 => ?_)
      simp only [put_lit, put_no, List.set_cons_zero, List.set_cons_succ]
      have o3 := (o1.trans ho2 (fun _ _ t => t)).trans ho3 (fun _ _ t => t)
      have hc3 := hc.keep o3 (fun t => t)
      have c3 := o3.cell_some c0 (fun t => t)
      have f3 := hc3.frozen 0
      refine hK _ _ c3 ?_
      clear hK K
      obtain ⟨A3, cap3, rfl, _⟩ := hr3.open
      iterate 2 (refine lex_pureK rfl (fun K hK => ?_); apply Exists.intro; refine ⟨fun W hW => ?_, ?_⟩; (have hc1 := hW; go_simp; rfl); simp only [put_lit, put_no, List.set_cons_zero, List.set_cons_succ]; refine hK _ ?_; clear hK K)
      refine lex_effLast rfl (fun K hK => ?_)
      go_simp
      refine hK _ _ ?_
      go_end0
      refine ⟨rfl, k, ⟨hkl, hI.lt, hstop⟩, ⟨⟨_, hc3.set_ 0 _, ?_⟩, h1.n0, h1.n1⟩, ?_⟩
      · have hr2s : r < w2.heap.size := Nat.lt_of_lt_of_le hc.lt (Nat.le_trans o1.size ho2.size)
        have hrow := (hr3.mono (R' := fun j => r < j) (fun j _ hR => hR.elim (fun h => h) (fun h => Nat.lt_of_lt_of_le hr2s h))).keep (Only.cell1 _ ⟨r, 0, none⟩ (.slice A3 (k + (1 + (L.length - k))) cap3)) (fun j _ hR t => Nat.ne_of_gt hR t)
        have e1 : (L.take k ++ (id, n) :: L.drop k).length = k + (1 + (L.length - k)) := by simp; omega
        have e2 : (L.take k ++ (id, n) :: L.drop k).flatMap encD = (L.flatMap encD).take (k * 2) ++ (encD (id, n) ++ (L.flatMap encD).drop (k * 2)) := by
          rw [flat_take, flat_drop, List.flatMap_append, List.flatMap_cons]
        rw [e1, e2]
        exact hrow
      · exact (((ho1.trans o0 (fun _ _ t => t)).trans o3 (fun _ _ t => t)).mono (fun _ _ t => t.elim)).trans (Only.cell1 _ _ _) (fun _ _ t => t))

theorem refTick_end (h : RefAt w r L 2147483647) : Calls Try.prog 11 #[.pointer (some ⟨r, 0, none⟩)] w fun e w' =>
    e = .returned (.slice none 0 0) ∧ w = w' := by
  obtain ⟨v, hc, hr⟩ := h.ex
  have c1 : w.cell? ⟨r, 1, none⟩ = some (.int .u32 2147483647) := hc.cell 1
  go_enter Try.func11, Try.ntmps11
  go_wp2
  go_ret
  exact ⟨rfl, rfl⟩
structure TickRel (w1 : World) (r : Nat) (L : List (Int × Int)) (n : Int) (k : Nat) (v : Value) (wr : World) : Prop where
  le : k ≤ L.length
  row : wr.ownsRow w1.heap.size 3 1 v k ((L.take k).map fun x => .int .i64 x.1)
  ref : ∃ v, Cells wr r 30 #[v, .int .u32 n] ∧ RowAt wr (fun j => r < j ∧ j < w1.heap.size) 2 v (L.drop k).length ((L.drop k).flatMap encD)
  pre : ∀ y ∈ L.take k, y.2 ≤ n
  only : Only (fun k => k = r) w1 wr
structure Told (L : List (Int × Int)) (n : Int) (k : Nat) : Prop where
  le : k ≤ L.length
  pre : ∀ y ∈ L.take k, y.2 ≤ n
  stop : ∀ y, L[k]? = some y → ¬ y.2 ≤ n
set_option maxHeartbeats 2000000 in
theorem refTick_on (h : RefAt w r L now) (hn : now < 2147483647) (hL : L.length < 1000000000) : Calls Try.prog 11 #[.pointer (some ⟨r, 0, none⟩)] w fun e w' =>
    ∃ v k, e = .returned v ∧ Told L (now + 1) k ∧ RowAt w' (fun k => w.heap.size ≤ k) 1 v ((L.take k).map (·.1)).length (((L.take k).map (·.1)).map fun x => .int .i64 x) ∧ RefAt w' r (L.drop k) (now + 1) ∧ Only (fun k => k = r) w w' := by
  have hn0 := h.n0
  obtain ⟨v, hc, hr⟩ := h.ex
  have c1 : w.cell? ⟨r, 1, none⟩ = some (.int .u32 now) := hc.cell 1
  have f1 := hc.frozen 1
  go_enter Try.func11, Try.ntmps11
  go_wp2
  have p1 := Only.cell1 w ⟨r, 1, none⟩ (.int .u32 (now + 1))
  have hw1 : RefAt (w.setCell ⟨r, 1, none⟩ (.int .u32 (now + 1))) r L (now + 1) :=
    ⟨⟨v, hc.set_ 1 _, hr.keep p1 (fun k _ hk e => by simp only at e; omega)⟩, by omega, by omega⟩
  have hws : w.heap.size ≤ (w.setCell ⟨r, 1, none⟩ (.int .u32 (now + 1))).heap.size := p1.size
  clear c1 f1 hc hr
  generalize w.setCell ⟨r, 1, none⟩ (.int .u32 (now + 1)) = w1 at p1 hw1 hws ⊢
  go_loopg [3] L.length (fun gk v wz => TickRel w1 r L (now + 1) (L.length - gk) v wz ∧ gk ≤ L.length)
  case atStart => exact ⟨⟨by omega, by simpa using World.ownsRow_nil _ _ _ _, by
    obtain ⟨v1, hc1, hr1⟩ := hw1.ex
    exact ⟨v1, by simpa using hc1, by simpa using hr1.mono (fun j hj hR => ⟨hR, hj⟩)⟩, by simp, Only.refl _ _⟩, Nat.le_refl _⟩
  case round =>
    obtain ⟨hrel, hle⟩ := hrel
    obtain ⟨k, hk⟩ : ∃ k, L.length - gk = k := ⟨_, rfl⟩
    rw [hk] at hrel
    obtain ⟨hkl, hrow, href, hpre, honly⟩ := hrel
    obtain ⟨v', hc, hr⟩ := href
    have href : RefAt wr r (L.drop k) (now + 1) := ⟨⟨v', hc, hr.mono (fun _ _ h => h.1)⟩, by omega, by omega⟩
    obtain ⟨A, cap, rfl, hcap, hmax, hA⟩ := hr.open
    have c1 : wr.cell? ⟨r, 1, none⟩ = some (.int .u32 (now + 1)) := hc.cell 1
    have c0 : wr.cell? ⟨r, 0, none⟩ = some (.slice A (L.drop k).length cap) := hc.cell 0
    have f0 := hc.frozen 0
    have hlr := hc.lt
    have hr1 : r < w1.heap.size := by obtain ⟨_, hcc, _⟩ := hw1.ex; exact hcc.lt
    cases hM : L.drop k with
    | nil =>
      rw [hM] at c0
      clear hA
      simp only [List.length_nil] at c0
      go_wp2
      go_region
      go_wp2
      go_ret
      have hkL : k = L.length := by
        have := congrArg List.length hM
        simp at this
        omega
      refine ⟨u3, k, rfl, ⟨hkl, hpre, fun y hy => ?_⟩, ?_, (href.keep (Only.refl Nobody wr).drew (fun _ _ t => t)), (p1.trans honly (fun _ _ t => t)).drew⟩
      · rw [hkL] at hy
        simp at hy
      · have := ((RowAt.of_own hrow).keep (Only.refl Nobody wr).drew (fun _ _ _ t => t)).mono (R' := fun k => w.heap.size ≤ k) (fun j _ hj => Nat.le_trans hws hj)
        rw [List.length_map, List.map_map, List.length_take, Nat.min_eq_left hkl]
        exact this
    | cons y M =>
      rw [hM] at c0 hA hcap hr
      obtain ⟨g, o, rfl, hg1, hg2, hgc⟩ := hA (by simp)
      obtain ⟨y1, y2⟩ := y
      have e0 := hgc 0 (.int .i64 y1) rfl
      have e1 := hgc 1 (.int .u32 y2) rfl
      clear hgc hA
      simp only [List.length_cons] at c0 hcap hr
      rw [Nat.add_zero] at e0
      generalize hMl : M.length = m at c0 hcap hr
      unfold maxLen at hmax
      have hkl' : k < L.length := by
        have := congrArg List.length hM
        simp at this
        omega
      by_cases hdue : y2 ≤ now + 1
      · go_wp2
        go_region
        go_wp2_with (first
          | (at_builtin
             (refine l_append elemN w1.heap.size u3 _ _ ⟨wr.drew.heap.size, 0, none⟩ 1 1 [.int .i64 y1] (ownsRow_keep hrow ((Only.refl Nobody wr).drew.alloc _) (fun _ _ _ _ t => t)) rfl (new_cells _ _ _) (by simp [Value.oneCell']) (by omega) (by have := honly.size; rw [World.size_alloc] at *; show _ ≤ wr.heap.size + 1; omega) (fun v' w7 hown7 ho7 hat7 hnil7 => ?_))
             have o7 : Only (fun k => some k = u3.ownBlock) wr w7 := (((Only.refl Nobody wr).drew.alloc _).mono (fun _ _ t => t.elim)).trans ho7 (fun _ _ t => t)
             have hno : ¬ some r = u3.ownBlock := fun t => by have := (hrow.lt r t.symm).1; omega
             have hc7 := hc.keep o7 hno
             have hr7 := hr.keep o7 (fun j hj hR t => by have := (hrow.lt j t.symm).1; omega)
             have c7 := o7.cell_some c0 hno
             have f7 := hc7.frozen 0
             clear c0 f0 hc hr hnil7 hat7))
        all_goals (
          have hr8 := hr7.sliced_from 1 (by omega)
          have o8 : Only (fun j => j = r) w1 w7 := honly.trans o7 (fun j hj t => absurd (hrow.lt j t.symm).1 (by omega))
          have hk1 : L.length - (gk - 1) = k + 1 := by omega
          have hk2 : gk - 1 ≤ L.length := by omega
          have hk3 : gk - 1 < gk := by omega
          have htk : L.take (k + 1) = L.take k ++ [(y1, y2)] := by
            have : (L.drop k)[0]? = some (y1, y2) := by rw [hM]; rfl
            rw [List.getElem?_drop, Nat.add_zero] at this
            rw [List.take_add_one, this]; rfl
          have hdk : L.drop (k + 1) = M := by rw [← List.drop_drop, hM]; rfl
          go_roundg (gk - 1)
          case measure => exact hk3
          case rel =>
            rw [hk1]
            refine ⟨⟨by omega, ?_, ⟨_, hc7.set_ 0 _, ?_⟩, ?_, ?_⟩, hk2⟩
            · rw [htk, List.map_append]
              exact ownsRow_keep hown7 (Only.cell1 _ _ _) (fun j hj _ _ t => by
                have t' : j = r := t
                omega)
            · rw [hdk, hMl]
              refine RowAt.keep (w := w7) ?_ (Only.cell1 _ _ _) (fun j _ hR t => by
                have t' : j = r := t
                omega)
              unfold sliced at hr8
              by_cases hcp : cap = 1
              · rw [if_pos hcp] at hr8
                subst hcp
                first
                  | exact hr8
                  | (exfalso; omega)
              · rw [if_neg hcp] at hr8
                first
                  | exact hr8
                  | (exfalso; omega)
            · rw [htk]
              intro y hy
              simp at hy
              rcases hy with hy | rfl
              · exact hpre y hy
              · exact hdue
            · exact o8.setCell (fun _ => rfl) _)
      · go_wp2
        go_region
        go_wp2
        go_ret
        refine ⟨u3, k, rfl, ⟨hkl, hpre, fun y hy => ?_⟩, ?_, (href.keep (Only.refl Nobody wr).drew (fun _ _ t => t)), (p1.trans honly (fun _ _ t => t)).drew⟩
        · have : (L.drop k)[0]? = some y := by rw [List.getElem?_drop]; exact hy
          rw [hM] at this
          cases this
          simp only
          omega
        · have := ((RowAt.of_own hrow).keep (Only.refl Nobody wr).drew (fun _ _ _ t => t)).mono (R' := fun k => w.heap.size ≤ k) (fun j _ hj => Nat.le_trans hws hj)
          rw [List.length_map, List.map_map, List.length_take, Nat.min_eq_left hkl]
          exact this
end Go.GwYtckgjiiogmcbmaa
