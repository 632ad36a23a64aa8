/-
  Words for memory that the later texts use: which blocks a call may turn (Only), and a map's block as a list of keys and values (MapK). No condition.
-/
import Derived.WalkKit
import Derived.WalkLawsBesides
import Derived.WalkSpells
import Derived.Lib.Hide
import Derived.Maps.RangeWalk
import Derived.Maps.OwnSet
namespace Go.GwYtckgjiiogmcbmaa
open Go.RowKit Go.MapKept Go.Maps
open Go.ChangeMaps (setBlock)

/-! ### which blocks may have turned -/
/-- of the blocks that w had, those outside S are in w' as they were. -/
structure Only (S : Nat → Prop) (w w' : World) : Prop where
  os : w'.os = w.os
  tape : w'.tape = w.tape
  output : w'.output = w.output
  size : w.heap.size ≤ w'.heap.size
  block : ∀ k, k < w.heap.size → ¬ S k → w'.heap[k]? = w.heap[k]?

def Nobody : Nat → Prop := fun _ => False

theorem Only.refl (S : Nat → Prop) (w : World) : Only S w w := ⟨rfl, rfl, rfl, Nat.le_refl _, fun _ _ _ => rfl⟩

theorem Only.mono {S T : Nat → Prop} {w w' : World} (h : Only S w w') (hs : ∀ k, k < w.heap.size → S k → T k) : Only T w w' :=
  ⟨h.os, h.tape, h.output, h.size, fun k hk hn => h.block k hk (fun s => hn (hs k hk s))⟩

/-- two steps; the second may turn what the first has made. -/
theorem Only.trans {S T : Nat → Prop} {a b c : World} (h : Only S a b) (k : Only T b c) (hT : ∀ i, i < a.heap.size → T i → S i) : Only S a c :=
  ⟨k.os.trans h.os, k.tape.trans h.tape, k.output.trans h.output, Nat.le_trans h.size k.size,
    fun i hi hn => (k.block i (Nat.lt_of_lt_of_le hi h.size) (fun t => hn (hT i hi t))).trans (h.block i hi hn)⟩

theorem Only.alloc {S : Nat → Prop} {a w : World} (h : Only S a w) (o : Obj) : Only S a (w.alloc o) :=
  h.trans (T := Nobody) ⟨rfl, rfl, rfl, by simp, fun k hk _ => Below.heap_alloc w o k hk⟩ (fun _ _ t => t.elim)

theorem Only.setCell {S : Nat → Prop} {a w : World} (h : Only S a w) {p : Addr} (hp : p.block < a.heap.size → S p.block) (u : Value) : Only S a (w.setCell p u) :=
  h.trans (T := fun k => k = p.block) ⟨rfl, rfl, rfl, by simp [World.setCell], fun k _ hk => Below.heap_setCell w p u k hk⟩ (fun i hi e => by subst e; exact hp hi)

theorem Only.drew {S : Nat → Prop} {a w : World} (h : Only S a w) : Only S a w.drew := ⟨h.os, h.tape, h.output, h.size, h.block⟩
theorem Only.drewN {S : Nat → Prop} {a w : World} (h : Only S a w) (n : Nat) : Only S a (w.drewN n) := ⟨h.os, h.tape, h.output, h.size, h.block⟩

theorem Only.setBlock {S : Nat → Prop} {a w : World} (h : Only S a w) {b : Nat} (hp : b < a.heap.size → S b) (o : Obj) : Only S a (setBlock w b o) :=
  h.trans (T := fun k => k = b) ⟨rfl, rfl, rfl, by simp [ChangeMaps.setBlock], fun k _ hk => by
    show (w.heap.setIfInBounds b o)[k]? = _
    rw [Array.getElem?_setIfInBounds, if_neg (fun e => hk e.symm)]⟩ (fun i hi e => by subst e; exact hp hi)

/-- one block set. -/
theorem Only.block1 (w : World) (b : Nat) (o : Obj) : Only (fun k => k = b) w (ChangeMaps.setBlock w b o) := Only.setBlock (S := fun k => k = b) (Only.refl _ _) (fun _ => rfl) o
/-- one cell set. -/
theorem Only.cell1 (w : World) (p : Addr) (u : Value) : Only (fun k => k = p.block) w (w.setCell p u) := Only.setCell (S := fun k => k = p.block) (Only.refl _ _) (fun _ => rfl) u
theorem Only.new1 (w : World) (o : Obj) : Only Nobody w (w.alloc o) := (Only.refl _ _).alloc o

theorem Only.below {w w' : World} (h : Only Nobody w w') : Below w.heap.size w w' := ⟨h.os, h.tape, h.output, h.size, fun k hk => h.block k hk (fun t => t)⟩
theorem Only.of_below {B : Nat} {w w' : World} (h : Below B w w') : Only (fun k => B ≤ k) w w' := ⟨h.os, h.tape, h.output, h.size, fun k _ hn => h.block k (Nat.lt_of_not_le hn)⟩
theorem Only.of_below_all {w w' : World} (h : Below w.heap.size w w') (S : Nat → Prop) : Only S w w' := ⟨h.os, h.tape, h.output, h.size, fun k hk _ => h.block k hk⟩
theorem Only.of_grown {row : Option Nat} {w w' : World} (h : w.grownBy w' row) : Only (fun k => some k = row) w w' := ⟨h.os, h.tape, h.output, h.size, fun k hk hn => h.block k hk hn⟩
theorem Only.grown {S : Nat → Prop} {row : Option Nat} {a w w' : World} (h : Only S a w) (hg : w.grownBy w' row) (hr : ∀ k, k < a.heap.size → some k = row → S k) : Only S a w' := h.trans (Only.of_grown hg) hr

theorem Only.cell {S : Nat → Prop} {w w' : World} (h : Only S w w') {p : Addr} (hp : p.block < w.heap.size) (hn : ¬ S p.block) : w'.cell? p = w.cell? p := World.cell?_of_block (w := w) (h.block p.block hp hn)
theorem Only.frozen {S : Nat → Prop} {w w' : World} (h : Only S w w') {p : Addr} (hp : p.block < w.heap.size) (hn : ¬ S p.block) : w'.frozen? p = w.frozen? p := World.frozen?_of_block (w := w) (h.block p.block hp hn)
/-- a cell that was there is there. -/
theorem Only.cell_some {S : Nat → Prop} {w w' : World} (h : Only S w w') {p : Addr} {v : Value} (hc : w.cell? p = some v) (hn : ¬ S p.block) : w'.cell? p = some v := (h.cell (World.block_lt_of_cell? w p hc) hn).trans hc
theorem Only.obj {S : Nat → Prop} {w w' : World} (h : Only S w w') {k : Nat} {o : Obj} (hc : w.heap[k]? = some o) (hn : ¬ S k) : w'.heap[k]? = some o :=
  (h.block k (Array.getElem?_eq_some_iff.1 hc).1 hn).trans hc

/-- the cells of a block that has just been made. -/
theorem new_cells (w : World) (l : List Value) (t : TypeId) : ∀ j u, l[j]? = some u → (w.alloc (.cells l.toArray t)).cell? ((⟨w.heap.size, 0, none⟩ : Addr).add j) = some u := by
  intro j u hj
  rw [Addr.add_lit, Nat.zero_add]
  have h := World.cell?_alloc_new w l.toArray t j
  rw [h]
  simpa using hj

theorem own_slice {w : World} {base : Nat} {e : TypeId} {size : Nat} {v : Value} {n : Nat} {xs : List Value} (h : w.ownsRow base e size v n xs) :
    ∃ A cap, v = .slice A n cap ∧ (0 < n → ∃ g, A = some ⟨g, 0, none⟩ ∧ base ≤ g ∧ g < w.heap.size ∧ ∀ j u, xs[j]? = some u → w.cell? ⟨g, j, none⟩ = some u) := by
  rcases h.2 with ⟨rfl, rfl⟩ | ⟨g, cap, cur, rfl, hb, hg, _⟩
  · exact ⟨none, 0, rfl, fun h => absurd h (by omega)⟩
  · refine ⟨_, _, rfl, fun _ => ⟨g, rfl, hb, (Array.getElem?_eq_some_iff.1 hg).1, fun j u hj => ?_⟩⟩
    have := h.cells (g := g) rfl j u hj
    rwa [Addr.add_lit, Nat.zero_add] at this
/-- a slice of the call's own, its block not turned. -/
theorem ownsRow_keep {S : Nat → Prop} {w w' : World} {base : Nat} {e : TypeId} {size : Nat} {v : Value} {n : Nat} {xs : List Value} (h : w.ownsRow base e size v n xs) (ho : Only S w w') (hS : ∀ k, base ≤ k → k < w.heap.size → v.ownBlock = some k → ¬ S k) : w'.ownsRow base e size v n xs := by
  refine ⟨h.1, ?_⟩
  rcases h.2 with hn | ⟨g, cap, cur, rfl, hb, hgg, rest⟩
  · exact .inl hn
  · have hlt := (Array.getElem?_eq_some_iff.1 hgg).1
    exact .inr ⟨g, cap, cur, rfl, hb, ho.obj hgg (hS g hb hlt rfl), rest⟩

/-! ### a block of cells that is known whole -/
def Cells (w : World) (g : Nat) (t : TypeId) (cs : Array Value) : Prop := w.heap[g]? = some (.cells cs t (0, 0))
section
variable {w w' : World} {g : Nat} {t : TypeId} {cs : Array Value}
theorem Cells.lt (h : Cells w g t cs) : g < w.heap.size := (Array.getElem?_eq_some_iff.1 h).1
theorem Cells.cell (h : Cells w g t cs) (i : Nat) : w.cell? ⟨g, i, none⟩ = cs[i]? := cell_of_row w g i cs t (0, 0) h
theorem Cells.frozen (h : Cells w g t cs) (i : Nat) : w.frozen? ⟨g, i, none⟩ = false := by unfold Cells at h; simp [World.frozen?, h]
theorem Cells.keep {S : Nat → Prop} (h : Cells w g t cs) (ho : Only S w w') (hn : ¬ S g) : Cells w' g t cs := ho.obj h hn
theorem Cells.new (w : World) (t : TypeId) (cs : Array Value) : Cells (w.alloc (.cells cs t)) w.heap.size t cs := heap_alloc_new w _
theorem Cells.set_ (h : Cells w g t cs) (i : Nat) (u : Value) : Cells (w.setCell ⟨g, i, none⟩ u) g t (cs.setIfInBounds i u) := by
  unfold Cells at h ⊢
  simp [World.setCell, Array.getElem?_modify, h]
theorem Cells.far (h : Cells w g t cs) {p : Addr} (hp : g ≠ p.block) (u : Value) : Cells (w.setCell p u) g t cs := (Below.heap_setCell w p u g hp).trans h
theorem Cells.alloc (h : Cells w g t cs) (o : Obj) : Cells (w.alloc o) g t cs := (Below.heap_alloc w o g h.lt).trans h
theorem Cells.drew (h : Cells w g t cs) : Cells w.drew g t cs := h
theorem Cells.blk {b : Nat} {o : Obj} (h : Cells w g t cs) (hb : g ≠ b) : Cells (setBlock w b o) g t cs := by
  show (w.heap.setIfInBounds b o)[g]? = _
  rw [Array.getElem?_setIfInBounds, if_neg (fun e => hb e.symm)]; exact h
end
end Go.GwYtckgjiiogmcbmaa
