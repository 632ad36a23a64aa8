/-
  A slice that is only read, or sliced, or appended to when it is full (RowAt). No condition.
-/
import Derived.Test.YtckgjiiogmcbmaaArms
import Derived.Deep.AppendSrc
import Derived.Deep.Upon
namespace Go.GwYtckgjiiogmcbmaa
open Go.RowKit Go.MapKept Go.Maps
open Go.ChangeMaps (setBlock)

/-- v is a slice of n elements of size cells each, its cells are xs, its block is in R. -/
structure RowAt (w : World) (R : Nat → Prop) (size : Nat) (v : Value) (n : Nat) (xs : List Value) : Prop where
  len : xs.length = n * size
  ex : ∃ A cap, v = .slice A n cap ∧ n ≤ cap ∧ cap ≤ maxLen ∧ (0 < n → ∃ g o, A = some ⟨g, o, none⟩ ∧ R g ∧ g < w.heap.size ∧ ∀ j u, xs[j]? = some u → w.cell? ⟨g, o + j, none⟩ = some u)

variable {w w' : World} {R : Nat → Prop} {size : Nat} {v : Value} {n : Nat} {xs : List Value}
theorem RowAt.of_own {base : Nat} {e : TypeId} (h : w.ownsRow base e size v n xs) : RowAt w (fun k => base ≤ k) size v n xs := by
  refine ⟨h.1, ?_⟩
  rcases h.2 with ⟨rfl, rfl⟩ | ⟨g, cap, cur, rfl, hb, hg, h1, h2, _⟩
  · exact ⟨none, 0, rfl, Nat.le_refl _, by unfold maxLen; omega, fun h => absurd h (by omega)⟩
  · refine ⟨_, _, rfl, h1, h2, fun _ => ⟨g, 0, rfl, hb, (Array.getElem?_eq_some_iff.1 hg).1, fun j u hj => ?_⟩⟩
    have := h.cells (g := g) rfl j u hj
    rwa [Addr.add_lit] at this
theorem RowAt.nil (w : World) (R : Nat → Prop) (size : Nat) : RowAt w R size (.slice none 0 0) 0 [] := ⟨by simp, none, 0, rfl, Nat.le_refl _, by unfold maxLen; omega, fun h => absurd h (by omega)⟩
theorem RowAt.mono {R' : Nat → Prop} (h : RowAt w R size v n xs) (hr : ∀ k, k < w.heap.size → R k → R' k) : RowAt w R' size v n xs := by
  obtain ⟨A, cap, h1, h2, h3, h4⟩ := h.ex
  exact ⟨h.len, A, cap, h1, h2, h3, fun hn => by obtain ⟨g, o, a, b, c, d⟩ := h4 hn; exact ⟨g, o, a, hr g c b, c, d⟩⟩
theorem RowAt.keep {S : Nat → Prop} (h : RowAt w R size v n xs) (ho : Only S w w') (hS : ∀ k, k < w.heap.size → R k → ¬ S k) : RowAt w' R size v n xs := by
  obtain ⟨A, cap, h1, h2, h3, h4⟩ := h.ex
  refine ⟨h.len, A, cap, h1, h2, h3, fun hn => ?_⟩
  obtain ⟨g, o, a, b, c, d⟩ := h4 hn
  exact ⟨g, o, a, b, Nat.lt_of_lt_of_le c ho.size, fun j u hj => ho.cell_some (d j u hj) (hS g c b)⟩
/-- a slice just built. -/
theorem RowAt.built (w : World) (e : TypeId) (size n : Nat) (l : List Value) (hl : l.length = n * size) (hn : n ≤ maxLen) : RowAt (w.alloc (.cells l.toArray e)) (fun k => w.heap.size ≤ k) size (.slice (some ⟨w.heap.size, 0, none⟩) n n) n l :=
  ⟨hl, _, _, rfl, Nat.le_refl _, hn, fun _ => ⟨_, 0, rfl, Nat.le_refl _, by simp, fun j u hj => by have := new_cells w l e j u hj; rwa [Addr.add_lit] at this⟩⟩
/-- the slice, opened: where it is empty nothing is known of its address. -/
theorem RowAt.open (h : RowAt w R size v n xs) : ∃ A cap, v = .slice A n cap ∧ n ≤ cap ∧ cap ≤ maxLen ∧ (0 < n → ∃ g o, A = some ⟨g, o, none⟩ ∧ R g ∧ g < w.heap.size ∧ ∀ j u, xs[j]? = some u → w.cell? ⟨g, o + j, none⟩ = some u) := h.ex

/-! ### sliced -/
theorem RowAt.sliced_from {A : Option Addr} {cap : Nat} (h : RowAt w R size (.slice A n cap) n xs) (k : Nat) (hk : k ≤ n) : RowAt w R size (sliced A k n cap size) (n - k) (xs.drop (k * size)) := by
  obtain ⟨A', cap', he, h2, h3, h4⟩ := h.ex
  cases he
  refine ⟨by rw [List.length_drop, h.len, Nat.sub_mul], _, _, rfl, by omega, by omega, fun hn => ?_⟩
  obtain ⟨g, o, rfl, b, c, d⟩ := h4 (by omega)
  rw [if_neg (by omega)]
  refine ⟨g, o + k * size, by simp [Addr.add_lit], b, c, fun j u hj => ?_⟩
  rw [List.getElem?_drop] at hj
  rw [Nat.add_assoc]
  exact d _ u hj
theorem RowAt.sliced_to {A : Option Addr} {cap : Nat} (h : RowAt w R size (.slice A n cap) n xs) (k : Nat) (hk : k ≤ n) : RowAt w R size (.slice A k k) k (xs.take (k * size)) := by
  obtain ⟨A', cap', he, h2, h3, h4⟩ := h.ex
  cases he
  refine ⟨by rw [List.length_take, h.len]; exact Nat.min_eq_left (Nat.mul_le_mul_right _ hk), _, _, rfl, Nat.le_refl _, by omega, fun hn => ?_⟩
  obtain ⟨g, o, rfl, b, c, d⟩ := h4 (by omega)
  refine ⟨g, o, rfl, b, c, fun j u hj => d j u ?_⟩
  rw [List.getElem?_take] at hj
  split at hj
  · exact hj
  · cases hj
theorem sliced_zero (A : Option Addr) (k s : Nat) : sliced A 0 k k s = .slice A k k := by
  unfold sliced
  cases A <;> simp [Addr.add]

/-! ### appended to, being full -/
theorem RowAt.src {P : Program} {t e : TypeId} (ht : P.underlying t = some (.slice e)) (h : RowAt w R size v n xs) (h1 : ∀ u ∈ xs, u.oneCell' = true) : Src P size t v n xs w := by
  obtain ⟨A, cap, rfl, h2, h3, h4⟩ := h.ex
  have hl := h.len
  by_cases hn : n = 0
  · subst hn
    have : xs = [] := List.length_eq_zero_iff.1 (by omega)
    subst this
    cases A with
    | none => exact Src.ofNil w ht cap
    | some a => exact Src.ofSlice w ht a 0 cap [] (by simp) (by simp) (by simp)
  · obtain ⟨g, o, rfl, b, c, d⟩ := h4 (by omega)
    exact Src.ofSlice w ht _ n cap xs hl (fun j u hj => by rw [Addr.add_lit]; exact d j u hj) h1
theorem RowAt.first {P : Program} {A : Option Addr} {cap : Nat} (h : RowAt w R size (.slice A n cap) n xs) (w1 : World) (hc : ∀ a u, w.cell? a = some u → w1.cell? a = some u) : (Builtin.firstCells size n (.slice A n cap)).run P w1 = .ok xs.toArray w1 := by
  obtain ⟨A', cap', he, h2, h3, h4⟩ := h.ex
  cases he
  have hl := h.len
  by_cases hn : n = 0
  · subst hn
    have : xs = [] := List.length_eq_zero_iff.1 (by omega)
    subst this
    cases A with
    | none => exact run_firstCells_none w1 size 0 0 cap
    | some a => exact run_firstCells_some w1 size 0 a 0 cap [] (by simp) (by simp)
  · obtain ⟨g, o, rfl, b, c, d⟩ := h4 (by omega)
    exact run_firstCells_some w1 size n _ n cap xs hl (fun j u hj => by rw [Addr.add_lit]; exact hc _ _ (d j u hj))
theorem run_append_row {P : Program} {t e ty : TypeId} {bytes : Nat} (T : ElemT P t e size bytes) {A : Option Addr} {k : Nat} {olds : List Value} (h1 : RowAt w R size (.slice A k k) k olds) {R2 : Nat → Prop} {v2 : Value} {m : Nat} {news : List Value} (h2 : RowAt w R2 size v2 m news)
    (ho : ∀ u ∈ news, u.oneCell' = true) (hn : k + m ≤ 1000000000) :
    ∃ v' w', (Builtin.append_ #[t, t] ty #[.slice A k k, v2]).run P w = .ok v' w' ∧ RowAt w' (fun g => R g ∨ w.heap.size ≤ g) size v' (k + m) (olds ++ news) ∧ Only Nobody w w' := by
  obtain ⟨i, z, hi, hz, hsz, hby, hzs⟩ := T.info
  subst hsz
  subst hby
  have hs := h2.src T.ht ho
  by_cases hm : m = 0
  · subst hm
    have : news = [] := List.length_eq_zero_iff.1 (by have := h2.len; omega)
    subst this
    exact ⟨_, _, run_append_nothing w t t ty e i T.ht hi A k k (Nat.le_refl _) v2 hs, by rw [List.append_nil]; exact h1.mono (fun _ _ r => .inl r), Only.refl _ _⟩
  · have hb : (k + m) * i.bytes ≤ 1000000000 * 100000 := Nat.mul_le_mul hn T.few
    have hcl : (olds ++ news).length = (k + m) * i.size := by rw [List.length_append, h1.len, h2.len, Nat.add_mul]
    have hr := run_append_grow_src w t t ty e i z T.ht hi hz A k k olds (h1.first w.drew (fun _ _ h => h)) v2 m news hs (by omega) (by omega) (growslice_fits (by omega) (by omega))
    refine ⟨_, _, hr, ⟨hcl, _, _, rfl, grownCap_ge w (k + m) k e, grownCap_le_maxLen w (k + m) k e (by unfold maxLen; omega), fun _ => ⟨_, 0, rfl, .inr (Nat.le_refl _), by simp, fun j u hj => ?_⟩⟩, ((Only.refl Nobody w).drew.alloc _)⟩
    have := World.cell?_alloc_new w.drew ((olds ++ news).toArray ++ Builtin.zeroCells z.cells (grownCap w (k + m) k e - (k + m))) e (0 + j)
    refine this.trans ?_
    rw [Nat.zero_add, Array.getElem?_append, if_pos (by simpa using (List.getElem?_eq_some_iff.1 hj).1)]
    simpa using hj
section
variable {P : Program} {ops : Array Oper} {rest : List Oper} {a : Act} {Q : Exit → Act → World → Prop} {K : Act → World → Prop} {d : Option Tmp} {ty : TypeId} {pos : String} {aft : Array Edge} {gd : Option (Nat × Bool)}
theorem wp_append_row {t e : TypeId} {bytes : Nat} (T : ElemT P t e size bytes) {A : Option Addr} {k : Nat} {olds : List Value} (h1 : RowAt w R size (.slice A k k) k olds) {R2 : Nat → Prop} {v2 : Value} {m : Nat} {news : List Value} (h2 : RowAt w R2 size v2 m news)
    (ho : ∀ u ∈ news, u.oneCell' = true) (hn : k + m ≤ 1000000000) {s x : Operand}
    (h : ∀ v' w', RowAt w' (fun g => R g ∨ w.heap.size ≤ g) size v' (k + m) (olds ++ news) → Only Nobody w w' → K (a.put d v') w')
    (hs : a.eval s = .slice A k k := by with_unfolding_all rfl) (hx : a.eval x = v2 := by with_unfolding_all rfl) :
    Oper.wp P ⟨d, .call { callee := .builtin .append, args := #[s, x], argTypes := #[t, t] }, ty, pos, aft, gd⟩ a w K Q := by
  obtain ⟨v', w', hr, h3, h4⟩ := run_append_row (P := P) (ty := ty) T h1 h2 ho hn
  unfold Oper.wp execOp
  simp only [resolve, invoke, builtin, Sem.run_bind, Sem.run_pure, Result.andThen_ok, List.map_toArray, List.map_cons, List.map_nil, hs, hx, hr]
  exact h v' w' h3 h4
/-- s[:k:k]. -/
theorem exec_slice_to {t : TypeId} {A : Option Addr} {n cap k : Nat} (ht : P.underlying t = some (.slice (P.elem t))) (hsz : (sizeOf (P.elem t)).run P w = .ok size w) (hk : k ≤ cap) {x h m : Operand}
    (hx : a.eval x = .slice A n cap := by with_unfolding_all rfl) (hh : a.eval h = .int .i64 k := by with_unfolding_all rfl) (hm : a.eval m = .int .i64 k := by with_unfolding_all rfl) :
    (execOp a.eval ⟨d, .slice t x none (some h) (some m), ty, pos, aft, gd⟩).run P w = .ok (.value (.slice A k k)) w := by
  have h1 := run_slice_hm (P := P) w t A n cap ht .i64 .i64 (k : Int) (k : Int) (by omega) (by omega) (by omega)
  rw [hsz] at h1
  simp only [Int.toNat_natCast, Result.andThen_ok, sliced_zero] at h1
  simp only [execOp, Sem.run_bind, Option.map_some, Option.map_none, hx, hh, hm, run_sliceAt_slice w t _ _ _ _ ht, h1, Result.andThen_ok, Sem.run_pure]
/-- s[k:]. -/
theorem exec_slice_from {t : TypeId} {A : Option Addr} {n cap k : Nat} (ht : P.underlying t = some (.slice (P.elem t))) (hsz : (sizeOf (P.elem t)).run P w = .ok size w) (hk : k ≤ n) {x l : Operand}
    (hx : a.eval x = .slice A n cap := by with_unfolding_all rfl) (hl : a.eval l = .int .i64 k := by with_unfolding_all rfl) :
    (execOp a.eval ⟨d, .slice t x (some l) none none, ty, pos, aft, gd⟩).run P w = .ok (.value (sliced A k n cap size)) w := by
  have h1 := run_slice_l (P := P) w t A n cap ht .i64 (k : Int) (by omega) (by omega)
  rw [hsz] at h1
  simp only [Int.toNat_natCast, Result.andThen_ok] at h1
  simp only [execOp, Sem.run_bind, Option.map_some, Option.map_none, hx, hl, run_sliceAt_slice w t _ _ _ _ ht, h1, Result.andThen_ok, Sem.run_pure]
end
end Go.GwYtckgjiiogmcbmaa
