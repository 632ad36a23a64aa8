/-
  A slice that is only read, or sliced, or appended to when it is full (RowAt). No condition.
-/
import Derived.Test.YtckgjiiogmcbmaaArms
import Derived.Deep.AppendSrc
namespace Go.GwYtckgjiiogmcbmaa
open Go.RowKit Go.MapKept Go.Maps
open Go.ChangeMaps (setBlock)

/-- v is a slice of n elements of size cells each, its cells are xs, its block is in R. -/
structure RowAt (w : World) (R : Nat → Prop) (size : Nat) (v : Value) (n : Nat) (xs : List Value) : Prop where
  len : xs.length = n * size
  ex : ∃ A cap, v = .slice A n cap ∧ n ≤ cap ∧ cap ≤ maxLen ∧ (0 < n → ∃ g o, A = some ⟨g, o, none⟩ ∧ R g ∧ g < w.heap.size ∧ ∀ j u, xs[j]? = some u → w.cell? ⟨g, o + j, none⟩ = some u)

variable {w w' : World} {R : Nat → Prop} {size : Nat} {v : Value} {n : Nat} {xs : List Value}
theorem RowAt.of_own {base : Nat} {e : TypeId} (h : w.ownsRow base e size v n xs) : RowAt w (fun k => base ≤ k) size v n xs := by
  refine ⟨h.1, ?_⟩
  rcases h.2 with ⟨rfl, rfl⟩ | ⟨g, cap, cur, rfl, hb, hg, h1, h2, _⟩
  · exact ⟨none, 0, rfl, Nat.le_refl _, by unfold maxLen; omega, fun h => absurd h (by omega)⟩
  · refine ⟨_, _, rfl, h1, h2, fun _ => ⟨g, 0, rfl, hb, (Array.getElem?_eq_some_iff.1 hg).1, fun j u hj => ?_⟩⟩
    have := h.cells (g := g) rfl j u hj
    rwa [Addr.add_lit] at this
theorem RowAt.nil (w : World) (R : Nat → Prop) (size : Nat) : RowAt w R size (.slice none 0 0) 0 [] := ⟨by simp, none, 0, rfl, Nat.le_refl _, by unfold maxLen; omega, fun h => absurd h (by omega)⟩
theorem RowAt.mono {R' : Nat → Prop} (h : RowAt w R size v n xs) (hr : ∀ k, k < w.heap.size → R k → R' k) : RowAt w R' size v n xs := by
  obtain ⟨A, cap, h1, h2, h3, h4⟩ := h.ex
  exact ⟨h.len, A, cap, h1, h2, h3, fun hn => by obtain ⟨g, o, a, b, c, d⟩ := h4 hn; exact ⟨g, o, a, hr g c b, c, d⟩⟩
theorem RowAt.keep {S : Nat → Prop} (h : RowAt w R size v n xs) (ho : Only S w w') (hS : ∀ k, k < w.heap.size → R k → ¬ S k) : RowAt w' R size v n xs := by
  obtain ⟨A, cap, h1, h2, h3, h4⟩ := h.ex
  refine ⟨h.len, A, cap, h1, h2, h3, fun hn => ?_⟩
  obtain ⟨g, o, a, b, c, d⟩ := h4 hn
  exact ⟨g, o, a, b, Nat.lt_of_lt_of_le c ho.size, fun j u hj => ho.cell_some (d j u hj) (hS g c b)⟩
/-- a slice just built. -/
theorem RowAt.built (w : World) (e : TypeId) (size n : Nat) (l : List Value) (hl : l.length = n * size) (hn : n ≤ maxLen) : RowAt (w.alloc (.cells l.toArray e)) (fun k => w.heap.size ≤ k) size (.slice (some ⟨w.heap.size, 0, none⟩) n n) n l :=
  ⟨hl, _, _, rfl, Nat.le_refl _, hn, fun _ => ⟨_, 0, rfl, Nat.le_refl _, by simp, fun j u hj => by have := new_cells w l e j u hj; rwa [Addr.add_lit] at this⟩⟩
/-- the slice, opened: where it is empty nothing is known of its address. -/
theorem RowAt.open (h : RowAt w R size v n xs) : ∃ A cap, v = .slice A n cap ∧ n ≤ cap ∧ cap ≤ maxLen ∧ (0 < n → ∃ g o, A = some ⟨g, o, none⟩ ∧ R g ∧ g < w.heap.size ∧ ∀ j u, xs[j]? = some u → w.cell? ⟨g, o + j, none⟩ = some u) := h.ex
end Go.GwYtckgjiiogmcbmaa
