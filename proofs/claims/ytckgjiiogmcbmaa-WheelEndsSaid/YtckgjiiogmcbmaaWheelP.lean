/-
  The wheel and the statements' own: what they tell is the same. Plain lists, no program.
-/
import Derived.Test.YtckgjiiogmcbmaaWheelR
namespace Go.GwYtckgjiiogmcbmaa
open Go.Sort

def fE (E : List (Int × Ent)) : List (Int × Int) := E.map fun p => (p.1, p.2.at_)

structure Agree (s0 now : Int) (E : List (Int × Ent)) (L : List (Int × Int)) : Prop where
  perm : (fE E).Perm L
  sorted : L.Pairwise leD
  slot : ∀ p ∈ E, p.2.slot = slotAt s0 p.2.at_
  ahead : ∀ p ∈ E, now < max p.2.at_ (s0 + 1)
  nodup : (E.map (·.1)).Nodup
  s0 : s0 ≤ now

theorem Agree.nil (s : Int) : Agree s s [] [] := ⟨.nil, .nil, by simp, by simp, by simp, Int.le_refl _⟩
theorem fE_fst (E : List (Int × Ent)) : (fE E).map (·.1) = E.map (·.1) := by unfold fE; rw [List.map_map]; rfl
theorem Agree.nodupL {s0 now : Int} {E : List (Int × Ent)} {L : List (Int × Int)} (h : Agree s0 now E L) : (L.map (·.1)).Nodup := by
  rw [← (h.perm.map (·.1)).nodup_iff, fE_fst]
  exact h.nodup
theorem Agree.length {s0 now : Int} {E : List (Int × Ent)} {L : List (Int × Int)} (h : Agree s0 now E L) : E.length = L.length := by
  have := h.perm.length_eq
  simpa [fE] using this
theorem leD_trans {x y z : Int × Int} (h : leD x y) (k : leD y z) : leD x z := by unfold leD at *; omega

theorem Agree.set {s : Int} {E : List (Int × Ent)} {L : List (Int × Int)} (h : Agree s s E L) (id n : Int) (hid : ∀ p ∈ E, p.1 ≠ id) {k : Nat} (hk : InsAt L (id, n) k) :
    Agree s s (kvDel E id ++ [(id, ⟨n, slotAt s n⟩)]) (L.take k ++ (id, n) :: L.drop k) := by
  have hd : kvDel E id = E := kvDel_none (kvGet_none.2 hid)
  have hidL : ∀ p ∈ L, p.1 ≠ id := by
    intro p hp e
    obtain ⟨q, hq, rfl⟩ := List.mem_map.1 ((h.perm.mem_iff).2 hp)
    exact hid q hq e
  rw [hd]
  refine ⟨?_, ?_, ?_, ?_, ?_, Int.le_refl _⟩
  · unfold fE
    rw [List.map_append]
    have h1 : (L.take k ++ (id, n) :: L.drop k).Perm ((id, n) :: L) := by
      have := List.perm_middle (a := (id, n)) (l₁ := L.take k) (l₂ := L.drop k)
      rwa [List.take_append_drop] at this
    exact (((h.perm.append_right _).trans (List.perm_append_comm (l₁ := L) (l₂ := [(id, n)])))).trans h1.symm
  · have hs := h.sorted
    rw [← List.take_append_drop k L, List.pairwise_append] at hs
    have hx : ∀ z ∈ L.drop k, leD (id, n) z := by
      intro z hz
      cases hM : L.drop k with
      | nil => rw [hM] at hz; cases hz
      | cons y M =>
        have hy : L[k]? = some y := by
          have : (L.drop k)[0]? = some y := by rw [hM]; rfl
          rwa [List.getElem?_drop] at this
        have h1 := hk.ge y hy
        have h2 := hidL y (List.mem_of_getElem? hy)
        have h3 : leD (id, n) y := by unfold leD at *; simp only at *; omega
        rw [hM] at hz
        rcases List.mem_cons.1 hz with rfl | hz
        · exact h3
        · have := hs.2.1
          rw [hM, List.pairwise_cons] at this
          exact leD_trans h3 (this.1 z hz)
    rw [List.pairwise_append]
    refine ⟨hs.1, List.pairwise_cons.2 ⟨hx, hs.2.1⟩, fun a ha b hb => ?_⟩
    rcases List.mem_cons.1 hb with rfl | hb
    · exact hk.lt a ha
    · exact hs.2.2 a ha b hb
  · intro p hp
    rcases List.mem_append.1 hp with hp | hp
    · exact h.slot p hp
    · simp at hp; subst hp; rfl
  · intro p hp
    rcases List.mem_append.1 hp with hp | hp
    · exact h.ahead p hp
    · simp at hp; subst hp; simp only; omega
  · rw [List.map_append, List.nodup_append]
    refine ⟨h.nodup, by simp, ?_⟩
    intro a ha b hb
    simp at hb
    subst hb
    obtain ⟨q, hq, rfl⟩ := List.mem_map.1 ha
    exact hid q hq

theorem filter_take {L : List (Int × Int)} {n : Int} {k : Nat} (hs : L.Pairwise leD) (hk : Told L n k) : L.filter (fun y => y.2 ≤ n) = L.take k ∧ ∀ z ∈ L.drop k, ¬ z.2 ≤ n := by
  have hx : ∀ z ∈ L.drop k, ¬ z.2 ≤ n := by
    intro z hz
    rw [← List.take_append_drop k L, List.pairwise_append] at hs
    cases hM : L.drop k with
    | nil => rw [hM] at hz; cases hz
    | cons y M =>
      have hy : L[k]? = some y := by
        have : (L.drop k)[0]? = some y := by rw [hM]; rfl
        rwa [List.getElem?_drop] at this
      have h1 := hk.stop y hy
      rw [hM] at hz
      rcases List.mem_cons.1 hz with rfl | hz
      · exact h1
      · have := hs.2.1
        rw [hM, List.pairwise_cons] at this
        have h2 := this.1 z hz
        unfold leD at h2
        omega
  refine ⟨?_, hx⟩
  have h1 : (L.take k ++ L.drop k).filter (fun y => decide (y.2 ≤ n)) = L.take k := by
    rw [List.filter_append, List.filter_eq_self.2 (fun y hy => by simpa using hk.pre y hy), List.filter_eq_nil_iff.2 (fun y hy => by simpa using hx y hy), List.append_nil]
  rwa [List.take_append_drop] at h1

theorem foldl_del (D : List (Int × Int)) : ∀ E : List (Int × Ent), D.foldl (fun l x => kvDel l x.1) E = E.filter (fun p => D.all fun x => x.1 != p.1) := by
  induction D with
  | nil => intro E; exact (List.filter_eq_self.2 (by simp)).symm
  | cons d D ih =>
    intro E
    rw [List.foldl_cons, ih]
    unfold kvDel
    rw [List.filter_filter]
    apply List.filter_congr
    intro p _
    rw [List.all_cons, Bool.and_comm]
    congr 1
    by_cases h : p.1 = d.1
    · simp [h]
    · have h' : d.1 ≠ p.1 := fun e => h e.symm
      simp [h, h']

theorem sortD_sorted {L : List (Int × Int)} (h : L.Pairwise leD) : sortD L = L := by
  unfold sortD
  refine List.mergeSort_of_pairwise (h.imp ?_)
  intro a b hab
  rw [ltD]
  unfold leD at hab
  simp
  omega

theorem dueOf_eq {s0 now : Int} {E : List (Int × Ent)} {L : List (Int × Int)} (h : Agree s0 now E L) (h0 : 0 ≤ s0) (hat : ∀ p ∈ E, 0 ≤ p.2.at_) : dueOf (now + 1) (slotOf E ((now + 1) % 64).toNat) = (fE E).filter (fun y => y.2 ≤ now + 1) := by
  have key : ∀ p ∈ E, p.2.at_ ≤ now + 1 → p.2.slot = ((now + 1) % 64).toNat := by
    intro p hp hle
    have h1 := h.slot p hp
    have h2 := h.ahead p hp
    have h3 := h.s0
    rw [h1]
    unfold slotAt
    have : max p.2.at_ (s0 + 1) = now + 1 := by omega
    rw [this]
  have hgen : ∀ (E : List (Int × Ent)), (∀ p ∈ E, p.2.at_ ≤ now + 1 → p.2.slot = ((now + 1) % 64).toNat) → dueOf (now + 1) (slotOf E ((now + 1) % 64).toNat) = (fE E).filter (fun y => y.2 ≤ now + 1) := by
    intro E
    induction E with
    | nil => intro _; rfl
    | cons p l ih =>
      intro hk
      have ih' := ih (fun q hq => hk q (by simp [hq]))
      unfold slotOf fE dueOf at *
      by_cases hle : p.2.at_ ≤ now + 1
      · have hs := hk p (by simp) hle
        rw [List.filter_cons_of_pos (by simpa using hs), List.map_cons, List.map_cons, List.filter_cons_of_pos (by simpa using hle), List.filterMap_cons]
        simp only [if_pos hle]
        rw [ih']
      · rw [List.map_cons, List.filter_cons_of_neg (p := fun y : Int × Int => decide (y.2 ≤ now + 1)) (by simpa using hle)]
        by_cases hs : p.2.slot = ((now + 1) % 64).toNat
        · rw [List.filter_cons_of_pos (by simpa using hs), List.map_cons, List.filterMap_cons]
          simp only [if_neg hle]
          rw [ih']
        · rw [List.filter_cons_of_neg (by simpa using hs), ih']
  exact hgen E key

theorem Agree.tick {s0 now : Int} {E : List (Int × Ent)} {L : List (Int × Int)} (h : Agree s0 now E L) (h0 : 0 ≤ s0) (hat : ∀ p ∈ E, 0 ≤ p.2.at_) {k : Nat} (hk : Told L (now + 1) k) :
    dueL (now + 1) E = L.take k ∧ Agree s0 (now + 1) ((dueL (now + 1) E).foldl (fun l x => kvDel l x.1) E) (L.drop k) := by
  obtain ⟨hf, hx⟩ := filter_take h.sorted hk
  have hs := h.sorted
  rw [← List.take_append_drop k L, List.pairwise_append] at hs
  have hdue : dueL (now + 1) E = L.take k := by
    unfold dueL
    rw [dueOf_eq h h0 hat, sortD_perm (h.perm.filter _), hf, sortD_sorted hs.1]
  refine ⟨hdue, ?_⟩
  rw [hdue, foldl_del]
  have hnd := h.nodupL
  rw [← List.take_append_drop k L, List.map_append, List.nodup_append] at hnd
  have hperm : (fE (E.filter (fun p => (L.take k).all fun x => x.1 != p.1))).Perm (L.drop k) := by
    have e1 : fE (E.filter (fun p => (L.take k).all fun x => x.1 != p.1)) = (fE E).filter (fun q => (L.take k).all fun x => x.1 != q.1) := by
      unfold fE
      rw [List.filter_map]
      rfl
    rw [e1]
    refine (h.perm.filter _).trans ?_
    have e2 : (L.take k ++ L.drop k).filter (fun q => (L.take k).all fun x => x.1 != q.1) = L.drop k := by
      rw [List.filter_append, List.filter_eq_nil_iff.2 (fun y hy => ?_), List.filter_eq_self.2 (fun y hy => ?_), List.nil_append]
      · simp only [List.all_eq_true, bne_iff_ne, ne_eq]
        intro x hx
        exact hnd.2.2 x.1 (List.mem_map_of_mem hx) y.1 (List.mem_map_of_mem hy)
      · intro hh
        simp only [List.all_eq_true, bne_iff_ne, ne_eq] at hh
        exact hh y hy rfl
    rw [List.take_append_drop] at e2
    rw [e2]
  refine ⟨hperm, hs.2.1, fun p hp => h.slot p (List.mem_filter.1 hp).1, fun p hp => ?_, h.nodup.sublist (List.filter_sublist.map _), by have := h.s0; omega⟩
  have hm : (p.1, p.2.at_) ∈ L.drop k := hperm.mem_iff.1 (List.mem_map_of_mem (f := fun p : Int × Ent => (p.1, p.2.at_)) hp)
  have := hx _ hm
  simp only at this
  omega
end Go.GwYtckgjiiogmcbmaa
