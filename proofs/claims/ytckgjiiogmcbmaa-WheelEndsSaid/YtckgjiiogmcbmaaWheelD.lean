/-
  A tick of the wheel. No condition but the bound of its clock.
-/
import Derived.Test.YtckgjiiogmcbmaaWheelC
import Derived.Deep.LoopGhost
namespace Go.GwYtckgjiiogmcbmaa
open Go.RowKit Go.MapKept Go.Maps Go.Proofs
open Go.ChangeMaps (setBlock)
variable {w : World} {lo : Nat} {now : Int} {E : List (Int × Ent)}

theorem tick_end (h : WheelAt w lo 2147483647 E) : Calls Try.prog 10 #[.pointer (some ⟨lo + 1, 0, none⟩)] w fun e w' =>
    e = .returned (.slice none 0 0) ∧ w = w' := by
  have c0 := h.cells.cell 0
  rw [wc_now] at c0
  go_enter Try.func10, Try.ntmps10
  go_wp2
  go_ret
  exact ⟨rfl, rfl⟩

/-- what of a slot's numbers is due. -/
def dueOf (n : Int) (l : List (Int × Value)) : List (Int × Int) := l.filterMap fun p => match p.2 with
  | .int .u32 a => if a ≤ n then some (p.1, a) else none
  | _ => none
/-- the loop that gathers what is due: dn: what has come; rem: what is to come. -/
structure Gather (w2 : World) (lo r : Nat) (n : Int) (kv : List (Int × Value)) (s : Nat) (gk : Nat) (v : Value) (wr : World) : Prop where
  ex : ∃ dn rem, (dn ++ rem).Perm kv ∧ rem.length = gk ∧ RangeK wr ekI okI (lo + 2 + s) r kv rem ∧ wr.ownsRow (r + 1) 52 2 v (dueOf n dn).length ((dueOf n dn).flatMap encD)
  only : Only (fun k => r ≤ k) w2 wr
  size : w2.heap.size ≤ wr.heap.size

theorem dueOf_snoc (n id a : Int) (l : List (Int × Value)) : dueOf n (l ++ [(id, .int .u32 a)]) = if a ≤ n then dueOf n l ++ [(id, a)] else dueOf n l := by
  unfold dueOf
  rw [List.filterMap_append]
  split <;> simp [*]
/-- one more has come. -/
theorem gather_perm {kv dn rem : List (Int × Value)} (hnd : (kv.map (·.1)).Nodup) (hp : (dn ++ rem).Perm kv) {p : Int × Value} (hm : p ∈ rem) : ((dn ++ [p]) ++ kvDel rem p.1).Perm kv ∧ (kvDel rem p.1).length < rem.length := by
  have h1 : ((dn ++ rem).map (·.1)).Nodup := ((hp.map (·.1)).nodup_iff).2 hnd
  rw [List.map_append, List.nodup_append] at h1
  have h2 := kvDel_perm h1.2.1 hm
  refine ⟨?_, by have := h2.length_eq; simp at this; omega⟩
  rw [List.append_assoc, List.singleton_append]
  exact (List.Perm.append_left dn h2.symm).trans hp

theorem slotOf_mem {i : Nat} {p : Int × Value} (h : p ∈ slotOf E i) : ∃ id x, (id, x) ∈ E ∧ x.slot = i ∧ p = (id, .int .u32 x.at_) := by
  obtain ⟨q, hq, rfl⟩ := List.mem_map.1 h
  obtain ⟨h1, h2⟩ := List.mem_filter.1 hq
  exact ⟨q.1, q.2, h1, by simpa using h2, rfl⟩
theorem WheelAt.okid (h : WheelAt w lo now E) {id : Int} {x : Ent} (hx : (id, x) ∈ E) : okI id := by
  obtain ⟨_, _, _, _, _, hok⟩ := h.ins
  exact hok (id, _) (List.mem_map.2 ⟨(id, x), hx, rfl⟩)
theorem slotOf_length (E : List (Int × Ent)) (i : Nat) : (slotOf E i).length ≤ E.length := by
  unfold slotOf
  rw [List.length_map]
  exact List.length_filter_le _ _
theorem dueOf_length (n : Int) (l : List (Int × Value)) : (dueOf n l).length ≤ l.length := List.length_filterMap_le _ _
theorem infoD : (Try.prog.info? 52).map (fun i => (i.zero, i.size, i.bytes)) = some (some (.agg #[.int .i64 0, .int .u32 0]), 2, 16) := by kernel_rfl

theorem elemD : ElemT Try.prog 50 52 2 16 := by
  obtain ⟨i, h1, h2, h3, h4⟩ := info_parts infoD
  exact ⟨Try.underlying50, ⟨i, _, h1, h2, h3, h4, rfl⟩, by decide, by decide⟩
theorem infoN : (Try.prog.info? 3).map (fun i => (i.zero, i.size, i.bytes)) = some (some (.int .i64 0), 1, 8) := by kernel_rfl
theorem elemN : ElemT Try.prog 33 3 1 8 := by
  obtain ⟨i, h1, h2, h3, h4⟩ := info_parts infoN
  exact ⟨Try.underlying33, ⟨i, _, h1, h2, h3, h4, rfl⟩, by decide, by decide⟩
theorem flat2 {xs : List (Int × Int)} {k : Nat} {a b : Int} (h : xs[k]? = some (a, b)) : (xs.flatMap encD)[k * 2]? = some (.int .i64 a) ∧ (xs.flatMap encD)[k * 2 + 1]? = some (.int .u32 b) := by
  induction xs generalizing k with
  | nil => simp at h
  | cons y l ih =>
    cases k with
    | zero => simp at h; subst h; simp [encD]
    | succ k =>
      have := ih (k := k) (by simpa using h)
      rw [List.flatMap_cons, show (k + 1) * 2 = k * 2 + 2 by omega]
      exact this
/-- the loop that drops what is due, and tells it. -/
structure EmitRel (w5 : World) (lo : Nat) (now : Int) (E : List (Int × Ent)) (xs : List (Int × Int)) (B : Nat) (k : Nat) (v : Value) (wr : World) : Prop where
  row : wr.ownsRow B 3 1 v k ((xs.take k).map fun x => .int .i64 x.1)
  at_ : WheelAt wr lo now ((xs.take k).foldl (fun l x => kvDel l x.1) E)
  only : Only (InWheel lo) w5 wr
theorem sortD_perm {a b : List (Int × Int)} (h : a.Perm b) : sortD a = sortD b := by
  unfold sortD
  have tr : ∀ x y z : Int × Int, (!(ltOf cfD) y x) = true → (!(ltOf cfD) z y) = true → (!(ltOf cfD) z x) = true := fun x y z h1 h2 => by rw [ltD] at *; simp at *; omega
  have to : ∀ x y : Int × Int, ((!(ltOf cfD) y x) || (!(ltOf cfD) x y)) = true := fun x y => by rw [ltD, ltD]; simp; omega
  refine List.Perm.eq_of_pairwise (le := fun x y => (!(ltOf cfD) y x) = true) (fun x y _ _ h1 h2 => ?_) (List.pairwise_mergeSort tr to a) (List.pairwise_mergeSort tr to b) (((List.mergeSort_perm a _).trans h).trans (List.mergeSort_perm b _).symm)
  exact totD x y (by simpa using h2) (by simpa using h1)
/-- what is due at n, in order. -/
def dueL (n : Int) (E : List (Int × Ent)) : List (Int × Int) := sortD (dueOf n (slotOf E (n % 64).toNat))
theorem dueL_mem {n : Int} {x : Int × Int} (h : x ∈ dueL n E) : ∃ e, (x.1, e) ∈ E ∧ e.at_ = x.2 ∧ e.slot = (n % 64).toNat ∧ x.2 ≤ n := by
  unfold dueL sortD at h
  rw [List.mem_mergeSort] at h
  obtain ⟨p, hp, he⟩ := List.mem_filterMap.1 h
  obtain ⟨id, e, hE, hs, rfl⟩ := slotOf_mem hp
  simp only at he
  split at he
  · simp only [Option.some.injEq] at he; subst he; exact ⟨e, hE, rfl, hs, by assumption⟩
  · exact absurd he (by simp)
set_option maxHeartbeats 1000000 in
theorem tick_on (h : WheelAt w lo now E) (hn : now < 2147483647) (hE : E.length < 1000000000) : Calls Try.prog 10 #[.pointer (some ⟨lo + 1, 0, none⟩)] w fun e w' =>
    ∃ v, e = .returned v ∧ w'.ownsRow w.heap.size 3 1 v (dueL (now + 1) E).length ((dueL (now + 1) E).map fun x => .int .i64 x.1) ∧ WheelAt w' lo (now + 1) ((dueL (now + 1) E).foldl (fun l x => kvDel l x.1) E) ∧ Only (InWheel lo) w w' := by
  have c0 := h.cells.cell 0
  rw [wc_now] at c0
  have f0 := h.cells.frozen 0
  have hn0 := h.now0
  go_enter Try.func10, Try.ntmps10
  go_wp2_with fail
  have w1 : WheelAt (w.setCell ⟨lo + 1, 0, none⟩ (.int .u32 (now + 1))) lo (now + 1) E := by
    have p1 := Only.cell1 w ⟨lo + 1, 0, none⟩ (.int .u32 (now + 1))
    exact ⟨h.cells.set_ 0 _, h.ins.keep p1 (by simp only; omega), fun i hi => (h.slots i hi).keep p1 (by simp only; omega), by omega, by omega, h.small, h.atwf⟩
  have o1 : Only (InWheel lo) w (w.setCell ⟨lo + 1, 0, none⟩ (.int .u32 (now + 1))) := (Only.cell1 w ⟨lo + 1, 0, none⟩ (.int .u32 (now + 1))).mono (fun k _ hk => by simp only at hk; subst hk; exact ⟨by omega, by omega⟩)
  clear c0 f0
  generalize w.setCell ⟨lo + 1, 0, none⟩ (.int .u32 (now + 1)) = wq at w1 o1 ⊢
  obtain ⟨s, hse⟩ : ∃ s : Nat, (now + 1) % 64 = (s : Int) := ⟨((now + 1) % 64).toNat, by omega⟩
  have hs : (now + 1).tmod 64 = (s : Int) := by rw [Int.tmod_eq_emod_of_nonneg (by omega)]; exact hse
  have HSE := Lib.hid hse
  have hsx : s < 64 := by omega
  clear hse
  have hsi : (s : Int) < 64 := by omega
  have c0 := w1.cells.cell 0
  rw [wc_now] at c0
  have cs := w1.cells.cell (1 + s)
  rw [wc_slot _ _ _ _ hsx] at cs
  have hlt := w1.cells.lt
  have hm := w1.slots s hsx
  have hml := hm.lt
  refine wp_region_lex (fun W => W.cell? ⟨lo + 1, 0, none⟩ = some (.int .u32 (now + 1)) ∧ W.cell? ⟨lo + 1, 1 + s, none⟩ = some (.map (some (lo + 2 + s)))) [10] (by kernel_rfl) (by kernel_rfl) ⟨c0, cs⟩ ?_
  simp only [lexTag, List.contains_cons, List.contains_nil, Nat.reduceAdd, Nat.reduceBEq, Bool.or_false, Bool.false_or, Bool.or_true, Bool.true_or]
  iterate 10 (refine lex_pureK rfl (fun K hK => ?_); apply Exists.intro; refine ⟨fun W hW => ?_, ?_⟩; (obtain ⟨hc1, hc2⟩ := hW; go_simp; rfl); simp only [put_lit, put_no, List.set_cons_zero, List.set_cons_succ]; refine hK _ ?_; clear hK K)
  clear hs
  refine lex_eff rfl (fun K hK => ?_)
  refine wp_range_map (w := wq.drew) 44 3 24 Try.underlying44 hm (fun w2 hR ho2 hz2 => ?_)
  simp only [put_lit, put_no, List.set_cons_zero, List.set_cons_succ]
  refine hK _ _ ⟨ho2.cell_some (w := wq.drew) c0 (fun t => t), ho2.cell_some (w := wq.drew) cs (fun t => t)⟩ ?_
  clear hK K
  refine lex_nil ?_
  go_wp2_with fail
  have hR' : RangeK w2 ekI okI (lo + 2 + s) wq.heap.size (slotOf E s) (slotOf E s) := hR
  have ho2' : Only Nobody wq w2 := ⟨ho2.os, ho2.tape, ho2.output, ho2.size, ho2.block⟩
  have hz2' : w2.heap.size = wq.heap.size + 1 := hz2
  have hlast := (w1.slots 63 (by omega)).lt
  have w2W := w1.keep ho2' (fun _ _ t => t)
  clear hR ho2 hz2 c0 cs hlt hm hml w1
  simp only [World.size_drew]
  have hqr : w.heap.size ≤ wq.heap.size := o1.size
  generalize wq.heap.size = r at hR' hz2' hlast hqr ⊢
  have hr65 : lo + 66 ≤ r := by omega
  clear hlast
  go_loopg [3] (slotOf E s).length (fun gk v wr => Gather w2 lo r (now + 1) (slotOf E s) s gk v wr)
  case atStart =>
    refine ⟨⟨[], slotOf E s, by simp, rfl, hR', ?_⟩, Only.refl _ _, Nat.le_refl _⟩
    exact World.ownsRow_nil _ _ _ _
  case round =>
    obtain ⟨⟨dn, rem, hperm, hgk, hRr, hown⟩, honly, hsize⟩ := hrel
    have HG := Lib.hid hgk
    clear hgk
    have c0 := (w2W.cells.keep honly (by omega)).cell 0
    rw [wc_now] at c0
    by_cases hrem : rem = []
    · subst hrem
      have hlen : (dueOf (now + 1) dn).length < 1000000000 := by
        have h1 := hperm.length_eq
        have h2 := dueOf_length (now + 1) dn
        have h3 := slotOf_length E s
        simp at h1
        omega
      go_wp2_with (first
        | (at_next; (with_reducible refine l_next_end keyI hRr ?_))
        | (go_at_call 17
           refine (sort_due (r + 1) u3 (dueOf (now + 1) dn) wr hown (by omega)).mono ?_
           rintro e w5 ⟨rfl, hown5, hg5⟩
           obtain ⟨A, cap, rfl, hA⟩ := own_slice hown5))
      have hxl : (sortD (dueOf (now + 1) dn)).length = (dueOf (now + 1) dn).length := List.length_mergeSort _
      have hr5 : wr.heap.size ≤ w5.heap.size := hg5.size
      have o5 : Only (fun k => r ≤ k) w2 w5 := honly.grown hg5 (fun k hk e => by have := (hown.lt k e.symm).1; omega)
      have w5W := w2W.keep o5 (fun k hk => by have := hk.2; omega)
      have hdp : sortD (dueOf (now + 1) dn) = dueL (now + 1) E := by
        unfold dueL
        rw [show ((now + 1) % 64).toNat = s by have := HSE.out; omega]
        exact sortD_perm (List.Perm.filterMap _ (by simpa using hperm))
      have hok : ∀ x ∈ sortD (dueOf (now + 1) dn), okI x.1 := fun x hx => by
        rw [hdp] at hx
        obtain ⟨e, he, _⟩ := dueL_mem hx
        exact h.okid he
      generalize hxs : sortD (dueOf (now + 1) dn) = xs at hown5 hA hxl hok ⊢
      generalize (dueOf (now + 1) dn).length = n at hown5 hA hxl hlen ⊢
      have HXS := Lib.hid hxs
      clear hxs hown c0 hg5
      go_loopg [6, 53] n (fun gk v i wz => EmitRel w5 lo (now + 1) E xs w5.heap.size (n - gk) v wz ∧ gk ≤ n ∧ i = .int .i64 ((n - gk : Nat) : Int))
      case atStart =>
        refine ⟨⟨?_, by simpa using w5W, Only.refl _ _⟩, Nat.le_refl _, by simp⟩
        simpa using World.ownsRow_nil _ _ _ _
      case round =>
        obtain ⟨⟨hrow, hW, ho⟩, hle, rfl⟩ := hrel
        obtain ⟨k, hk⟩ : ∃ k, n - gk = k := ⟨_, rfl⟩
        rw [hk] at hrow hW ⊢
        by_cases hkn : k < n
        · obtain ⟨g, rfl, hg1, hg2, hgc⟩ := hA (by omega)
          clear hA
          have hk1 : n - (gk - 1) = k + 1 := by omega
          have hk2 : gk - 1 ≤ n := by omega
          have hk3 : gk - 1 < gk := by omega
          obtain ⟨x, hx⟩ : ∃ x, xs[k]? = some x := ⟨_, List.getElem?_eq_getElem (by omega)⟩
          obtain ⟨x1, x2⟩ := x
          have e0 := ho.cell_some (hgc (k * 2) (.int .i64 x1) (flat2 hx).1) (fun t => by have := t.2; simp only at this; omega)
          have e1 := ho.cell_some (hgc (k * 2 + 1) (.int .u32 x2) (flat2 hx).2) (fun t => by have := t.2; simp only at this; omega)
          have hoki : okI x1 := hok _ (List.mem_of_getElem? hx)
          have hg3 := ho.size
          have hwl := hW.cells.lt
          go_wp2_with (first
            | (go_at_call 15
               refine (drop_any (hW.keep (Only.new1 _ _) (fun _ _ t => t)) x1 hoki).mono ?_
               rintro e w6 ⟨rfl, hW6, ho6⟩
               have hrow6 := ownsRow_keep (ownsRow_keep hrow (Only.new1 _ _) (fun _ _ _ _ t => t)) ho6 (fun k hk _ _ t => by have := t.2; omega)
               have c6 : w6.cell? ⟨wr.heap.size, 0, none⟩ = some (.int .i64 x1) := ho6.cell_some (by rw [World.cell?_alloc_new]; rfl) (fun t => by have := t.2; simp only at this; omega))
            | (at_builtin
               (refine l_append elemN w5.heap.size u6 _ _ ⟨w6.heap.size, 0, none⟩ 1 1 [.int .i64 x1] (ownsRow_keep hrow6 (Only.new1 _ _) (fun _ _ _ _ t => t)) rfl (new_cells _ _ _) (by simp [Value.oneCell']) (by omega) (by have := ho6.size; rw [World.size_alloc] at *; omega) (fun v' w7 hown7 ho7 hat7 hnil7 => ?_))))
          go_roundg (gk - 1)
          case measure => exact hk3
          case rel =>
            have ht : xs.take (k + 1) = xs.take k ++ [(x1, x2)] := by rw [List.take_add_one, hx]; rfl
            rw [hk1]
            have o6 : Only (InWheel lo) w5 w6 := (ho.alloc _).trans ho6 (fun _ _ t => t)
            refine ⟨⟨?_, ?_, ?_⟩, hk2, by go_num⟩
            · rw [ht, List.map_append]; exact hown7
            · rw [ht, List.foldl_append]
              exact (hW6.keep (Only.new1 _ _) (fun _ _ t => t)).keep ho7 (fun j hj t => by have := (hrow6.lt j t.symm).1; have := hj.2; omega)
            · exact (o6.alloc _).trans ho7 (fun j hj t => by have := (hrow6.lt j t.symm).1; omega)
        · have hkn' : k = n := by omega
          subst hkn'
          go_wp2_with fail
          go_ret
          rw [List.take_of_length_le (by omega)] at hrow hW
          have hq : dueL (now + 1) E = xs := hdp.symm.trans HXS.out
          rw [hq]
          refine ⟨u6, rfl, ?_, hW, ((o1.trans ho2' (fun _ _ t => t.elim)).trans o5 (fun i hi t => absurd t (by omega))).trans ho (fun _ _ t => t)⟩
          rw [hxl]
          exact ⟨hrow.1, hrow.2.imp id fun ⟨g, cap, cur, h1, h2, h3⟩ => ⟨g, cap, cur, h1, by omega, h3⟩⟩
    · have hkl := slotOf_length E s
      have hpl := hperm.length_eq
      have hdl := dueOf_length (now + 1) dn
      simp only [List.length_append] at hpl
      have hbase : r + 1 ≤ wr.heap.size := by omega
      have hn9 : (dueOf (now + 1) dn).length + 1 ≤ 1000000000 := by omega
      clear hpl hkl hdl
      go_wp2_with (first
        | (at_next
           (with_reducible refine l_next_more hrem keyI hRr (fun p w3 hp hR3 ho3 hs3 hent3 => ?_))
           obtain ⟨id, x, hxE, hxs, rfl⟩ := slotOf_mem (hRr.sub p hp)
           have c03 := ho3.cell_some c0 (fun e => by simp only at e; omega)
           have hb3 : r + 1 ≤ w3.heap.size := by omega
           have hown3 := ownsRow_keep hown ho3 (fun k hk _ _ e => by omega)
           clear hs3
           simp only [ekI] at hent3 ⊢)
        | (at_builtin
           (refine l_append elemD (r + 1) u3 _ _ ⟨w3.heap.size, 0, none⟩ 1 1 (encD (id, x.at_)) (ownsRow_keep hown3 (Only.new1 _ _) (fun _ _ _ _ t => t)) rfl (new_cells _ _ _) (oneD _) hn9 (by rw [World.size_alloc]; omega) (fun v' w4 hown4 ho4 hat4 hnil4 => ?_))))
      · -- it is due
        have hle : x.at_ ≤ now + 1 := by assumption
        have hnd := hRr.map.nodup keyI
        obtain ⟨hp1, hp2⟩ := gather_perm hnd hperm hp
        have o4 : Only (fun k => r ≤ k) wr w4 := ((ho3.mono (T := fun k => r ≤ k) (fun k _ e => by omega)).alloc _).trans ho4 (fun k _ e => by have := (hown3.lt k e.symm).1; omega)
        go_roundg (kvDel rem id).length
        case measure => rw [← HG.out]; exact hp2
        case rel =>
          refine ⟨⟨dn ++ [(id, .int .u32 x.at_)], kvDel rem id, hp1, rfl, ?_, ?_⟩, honly.trans o4 (fun _ _ t => t), ?_⟩
          · exact (hR3.keep (Only.new1 _ _) (fun t => t) (fun t => t)).keep ho4 (fun e => by have := (hown3.lt _ e.symm).1; omega) (fun e => by have := (hown3.lt _ e.symm).1; omega)
          · rw [dueOf_snoc, if_pos hle, List.length_append, List.flatMap_append]
            simpa using hown4
          · exact Nat.le_trans hsize o4.size
      · -- it is not due
        have hle : ¬ x.at_ ≤ now + 1 := by omega
        have hnd := hRr.map.nodup keyI
        obtain ⟨hp1, hp2⟩ := gather_perm hnd hperm hp
        go_roundg (kvDel rem id).length
        case measure => rw [← HG.out]; exact hp2
        case rel =>
          refine ⟨⟨dn ++ [(id, .int .u32 x.at_)], kvDel rem id, hp1, rfl, hR3, ?_⟩, honly.trans ho3 (fun k _ e => by omega), Nat.le_trans hsize ho3.size⟩
          rw [dueOf_snoc, if_neg hle]
          exact hown3
end Go.GwYtckgjiiogmcbmaa
