/-
  The library's slices.SortFunc at structs, said of a slice that the call owns. Conditions: fewer than 2^62 elements; the comparison is a strict order that parts whatever two that are not one.
-/
import Derived.Test.YtckgjiiogmcbmaaBase
import Derived.Shelf.SlSortCmp.NoneTotal
namespace Go.GwYtckgjiiogmcbmaa
open Go.RowKit Go.Proofs Go.Shelf Go.Lib Go.Sort

section
variable {α : Type} [Inhabited α]
theorem flatK_toList (enc : α → List Value) (k : Nat) (hk : ∀ x, (enc x).length = k) (xs : List α) : (flatK enc k xs.toArray).toList = xs.flatMap enc := by
  apply List.ext_getElem?
  intro t
  have hlen : ∀ l : List α, (l.flatMap enc).length = l.length * k := by
    intro l
    induction l with
    | nil => simp
    | cons x l ih => simp [ih, hk, Nat.add_mul, Nat.add_comm]
  have hget : ∀ (l : List α) (t : Nat), t < l.length * k → (l.flatMap enc)[t]? = (enc (l[t / k]!))[t % k]? := by
    intro l
    induction l with
    | nil => intro t ht; simp at ht
    | cons x l ih =>
      intro t ht
      have k0 : 0 < k := by
        rcases Nat.eq_zero_or_pos k with h | h
        · subst h; simp at ht
        · exact h
      rw [List.flatMap_cons, List.getElem?_append, hk]
      by_cases h : t < k
      · rw [if_pos h, Nat.div_eq_of_lt h, Nat.mod_eq_of_lt h]
        rfl
      · rw [if_neg h]
        have h' : k ≤ t := by omega
        have h2 : t - k < l.length * k := by simp only [List.length_cons, Nat.add_mul, Nat.one_mul] at ht; omega
        rw [ih _ h2]
        have e1 : t / k = (t - k) / k + 1 := by
          rw [Nat.div_eq_sub_div k0 h']
        have e2 : t % k = (t - k) % k := by rw [Nat.mod_eq_sub_mod h']
        rw [e1, e2]
        congr 2
  by_cases ht : t < xs.length * k
  · have k0 : 0 < k := by
      rcases Nat.eq_zero_or_pos k with h | h
      · subst h; simp at ht
      · exact h
    rw [hget xs t ht, Array.getElem?_toList]
    have hm : t % k < (enc xs[t / k]!).length := by rw [hk]; exact Nat.mod_lt _ k0
    have h1 : (flatK enc k xs.toArray)[t]? = some ((flatK enc k xs.toArray)[t]!) := by
      rw [getElem!_pos _ t (by simpa using ht)]
      exact Array.getElem?_eq_getElem (by simpa using ht)
    rw [h1, get_flatK _ _ _ t (by simpa using ht)]
    have e : (xs.toArray)[t / k]! = xs[t / k]! := by simp
    rw [e, List.getElem?_eq_getElem hm, getElem!_pos (enc xs[t / k]!) (t % k) hm]
  · rw [List.getElem?_eq_none (by simp; omega), List.getElem?_eq_none (by rw [hlen]; omega)]

theorem heap_sortedK {enc : α → List Value} {k : Nat} {w : World} {g n : Nat} {os : Array Obj} {cur : Array Value} {e : TypeId} (d : Array α) (hb : w.heap[g]? = some (.cells cur e (0, 0))) :
    (sortWorldK enc k w g 0 n d os).heap[g]? = some (.cells (putCells id 0 (flatK enc k d) cur) e (0, 0)) := by
  have hg : g < w.heap.size := (Array.getElem?_eq_some_iff.1 hb).1
  unfold sortWorldK
  rw [heap_grow_old _ _ (by simpa [putRowK] using hg)]
  simp [putRowK, putRow, mapBlock, Sort.ahead, Array.getElem?_modify, hb, onCells]
theorem grownBy_sortedK {enc : α → List Value} {k : Nat} {w : World} {g n : Nat} {os : Array Obj} (d : Array α) : w.grownBy (sortWorldK enc k w g 0 n d os) (some g) := by
  refine ⟨rfl, rfl, rfl, by simp [sortWorldK, putRowK], fun j hj hne => ?_⟩
  unfold sortWorldK
  rw [heap_grow_old _ _ (by simpa [putRowK] using hj)]
  have : g ≠ j := fun e => hne (by rw [e])
  simp [putRowK, putRow, mapBlock, Sort.ahead, Array.getElem?_modify, this]
theorem take_putCellsK (cur F : Array Value) (h : F.size ≤ cur.size) : (putCells id 0 F cur).toList.take F.size = F.toList := by
  apply List.ext_getElem?
  intro j
  by_cases hj : j < F.size
  · rw [List.getElem?_take_of_lt hj, Array.getElem?_toList]
    simp [putCells, hj, show j < cur.size by omega]
  · rw [List.getElem?_take_eq_none (by omega), List.getElem?_eq_none (by simp; omega)]

variable {P : Program} {ρ : Ren}
theorem sortFunc_own (L : SlLaysF0.n6 P ρ) (k : Nat) (aE : ∀ w, (isAgg (ρ.t 24)).run P w = .ok true w) (zE : ∀ w, (Go.sizeOf (ρ.t 24)).run P w = .ok k w) (enc : α → List Value) (hk : ∀ x, (enc x).length = k) (h1 : ∀ x, ∀ v ∈ enc x, v.oneCell' = true)
    (cf : α → α → Int) (hO : SWO (ltOf cf)) (hT : ∀ x y, (ltOf cf) x y = false → (ltOf cf) y x = false → x = y) (g : Nat) (eg : ∀ args w, (callFunc g args).run P w = .ok (.enter g args) w)
    (hcmp : ∀ (x y : α) (W : World), Calls P g #[.agg (enc x).toArray, .agg (enc y).toArray] W fun e w' => e = .returned (.int .i64 (cf x y)) ∧ ∃ q os', w' = grow (W.drewN q) os')
    (base : Nat) (e : TypeId) (v : Value) (xs : List α) (w : World) (hown : w.ownsRow base e k v xs.length (xs.flatMap enc)) (hsz : xs.length < 4611686018427387904) :
    Calls P (ρ.f 6) #[v, .func (.func g) #[] #[]] w fun e' w' => e' = .returned (.tuple #[]) ∧ w'.ownsRow base e k v xs.length ((xs.mergeSort fun x y => !(ltOf cf) y x).flatMap enc) ∧ w.grownBy w' v.ownBlock := by
  rcases hown.2 with ⟨rfl, h0⟩ | ⟨b, cap, cur, rfl, hbase, hb, hl, hm, hs, ht⟩
  · have hx : xs = [] := List.eq_nil_of_length_eq_zero h0
    subst hx
    refine (AnyF.slices_SortFunc_none L none 0 (.func (.func g) #[] #[]) w).mono fun e' w' ⟨he, hw⟩ => ?_
    subst hw
    refine ⟨he, ?_, World.grownBy.refl _ _⟩
    simpa using hown
  · have hH : HoldsK enc k w b 0 xs.toArray := by
      intro j hj
      refine ⟨?_, by simp [World.frozen?, hb]⟩
      have hj' : j < xs.length * k := by simpa using hj
      have e1 : (cur.toList.take (xs.length * k))[j]? = (flatK enc k xs.toArray).toList[j]? := by rw [ht, flatK_toList enc k hk]
      rw [List.getElem?_take_of_lt hj'] at e1
      simp only [World.cell?, hb, Nat.zero_add, Option.isSome_none, Bool.false_eq_true, if_false]
      rw [← Array.getElem?_toList, e1, Array.getElem?_toList]
      rw [getElem!_pos _ j hj]
      exact Array.getElem?_eq_getElem hj
    refine (AnyQ.slices_SortFunc_total L k aE zE enc hk h1 cf hO g #[] b 0 cap xs.toArray w eg (fun m os dk _ x y => hcmp x y _) hH (Array.getElem?_eq_some_iff.1 hb).1 (by simpa using hsz) hT).mono fun e' w' ⟨he, n, os, hw⟩ => ?_
    subst hw
    have hlen : (xs.mergeSort fun x y => !(ltOf cf) y x).length = xs.length := by simp
    refine ⟨he, ⟨?_, .inr ⟨b, cap, _, rfl, hbase, heap_sortedK _ hb, hl, hm, by simp [putCells, hs], ?_⟩⟩, grownBy_sortedK _⟩
    · rw [← flatK_toList enc k hk]
      simp
    · have e2 : xs.length * k = (flatK enc k (xs.mergeSort fun x y => !(ltOf cf) y x).toArray).size := by simp
      rw [e2, take_putCellsK _ _ (by simp [hs]; exact Nat.mul_le_mul_right _ hl), flatK_toList enc k hk]
end
end Go.GwYtckgjiiogmcbmaa
