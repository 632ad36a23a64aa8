/-
  The laws of the map words at the operations of a walk (printed by mkarms.py). No condition.
-/
import Derived.Test.YtckgjiiogmcbmaaMap
import Derived.Maps.AppendAt
import Derived.RegionTactic
import Derived.Deep.RegionLaw
import Derived.Deep.QuietTactic
import Derived.BigQuiet
import Derived.BigRegion
import Derived.StillTailTactics
namespace Go.GwYtckgjiiogmcbmaa
open Go.RowKit Go.MapKept Go.Maps
open Go.ChangeMaps (setBlock)
section
variable {P : Program} {ops : Array Oper} {rest : List Oper} {a : Act} {w : World} {Q : Exit → Act → World → Prop} {K : Act → World → Prop} {d : Option Tmp} {ty : TypeId} {pos : String} {aft : Array Edge} {gd : Option (Nat × Bool)}

/-- an operation whose run is known. -/
theorem wp_run {op : Op} {v : Value} {w' : World} (hrun : (execOp a.eval ⟨d, op, ty, pos, aft, gd⟩).run P w = .ok (.value v) w') (h : K (a.put d v) w') : Oper.wp P ⟨d, op, ty, pos, aft, gd⟩ a w K Q := by
  unfold Oper.wp
  rw [hrun]
  exact h
theorem wp_run_skip {op : Op} {w' : World} (hrun : (execOp a.eval ⟨d, op, ty, pos, aft, gd⟩).run P w = .ok .skip w') (h : K (a.put d undef) w') : Oper.wp P ⟨d, op, ty, pos, aft, gd⟩ a w K Q := by
  unfold Oper.wp
  rw [hrun]
  exact h
/-- the same in a region that draws its order. -/
theorem step_arm {o : Oper} {E : Prop} (hg : o.guard = none) (h : Oper.wp P o a w K Q) : if Region.wanted o (yielded ops a.tmps) = true then Oper.wp P o a w K Q else E := by
  rw [if_pos (by simp [Region.wanted, hg])]
  exact h
theorem l_run {op : Op} {v : Value} {w' : World} (hrun : (execOp a.eval ⟨d, op, ty, pos, aft, none⟩).run P w = .ok (.value v) w') (h : wpList P ops Q rest (a.put d v) w') : wpList P ops Q (⟨d, op, ty, pos, aft, none⟩ :: rest) a w :=
  wpList_plain rfl fun _ hK => wp_run hrun (hK _ _ h)
/-- a struct or an array built, its run laid as an equation. -/
theorem l_build {t : TypeId} {parts : Array (Nat × Operand)} (ps : Array (Nat × Value)) (v : Value) (hrun : (Instr.build t ps).run P w = .ok v w) (h : wpList P ops Q rest (a.put d v) w)
    (hp : (parts.map fun (i, x) => (i, a.eval x)) = ps := by with_unfolding_all rfl) : wpList P ops Q (⟨d, .build t parts, ty, pos, aft, none⟩ :: rest) a w := by
  refine l_run ?_ h
  simp only [execOp, Sem.run_bind]
  rw [hp, hrun]
  rfl

/-- what append must know of a slice's element type. -/
structure ElemT (P : Program) (t e : TypeId) (size bytes : Nat) : Prop where
  ht : P.underlying t = some (.slice e)
  info : ∃ i z, P.info? e = some i ∧ i.zero = some z ∧ i.size = size ∧ i.bytes = bytes ∧ z.cells.size = size
  pos : 0 < size
  few : bytes ≤ 100000

/-- append of m elements that lie in a block to a slice of the call's own. -/
theorem l_append {t e : TypeId} {size bytes : Nat} (T : ElemT P t e size bytes) (base : Nat) (v : Value) (n : Nat) (xs : List Value) (ad : Addr) (m c : Nat) (news : List Value)
    (hown : w.ownsRow base e size v n xs) (hl : news.length = m * size) (hnews : ∀ j u, news[j]? = some u → w.cell? (ad.add j) = some u) (h1 : ∀ u ∈ news, u.oneCell' = true) (hn : n + m ≤ 1000000000) (hbase : base ≤ w.heap.size)
    {s x : Operand} (h : ∀ v' w', w'.ownsRow base e size v' (n + m) (xs ++ news) → Only (fun k => some k = v.ownBlock) w w' → (v'.ownBlock = v.ownBlock ∨ v'.ownBlock = some w.heap.size) → (v' = .slice none 0 0 ↔ v = .slice none 0 0 ∧ m = 0) → wpList P ops Q rest (a.put d v') w')
    (hs : a.eval s = v := by with_unfolding_all rfl) (hx : a.eval x = .slice (some ad) m c := by with_unfolding_all rfl) :
    wpList P ops Q (⟨d, .call { callee := .builtin .append, args := #[s, x], argTypes := #[t, t] }, ty, pos, aft, none⟩ :: rest) a w := by
  obtain ⟨i, z, hi, hz, hsz, hby, hzs⟩ := T.info
  have hb : (n + m) * bytes ≤ 1000000000 * 100000 := Nat.mul_le_mul hn T.few
  exact wpList_append_own_at _ rfl s x t rfl base e i z size bytes T.ht hi hz hsz hby hzs T.pos v n xs hs hown ad m c news hx hl hnews h1 (by unfold maxLen; omega) (by omega) hbase
    fun v' w' h2 h3 h4 h5 => h v' w' h2 (Only.of_grown h3) h5 h4

variable {κ : Type} [DecidableEq κ] {ek : κ → Value} {ok : κ → Prop} {b : Nat} {kv : List (κ × Value)} {m x y : Operand}

theorem wp_lookup_ok (t kt e : TypeId) (k : κ) (o : Option Value) (hg : kvGet kv k = o) (z : Value) (hk : ok k) (Kk : Keying P kt ek ok) (ht : P.underlying t = some (.map kt e)) (hmap : MapK w ek ok b kv) (hz : (zeroValue e).run P w = .ok z w)
    (h : K (a.put d (.tuple #[o.getD z, .bool o.isSome])) (w)) (hm : a.eval m = .map (some b) := by with_unfolding_all rfl) (hx : a.eval x = ek k := by with_unfolding_all rfl) : Oper.wp P ⟨d, .lookup t m x true, ty, pos, aft, gd⟩ a w K Q := by
  subst hg
  refine wp_run ?_ h
  simp only [execOp, hm, hx, Sem.run_bind, run_lookup_kv Kk ht hmap k hk hz, Result.andThen_ok]
  rfl
theorem l_lookup_ok (t kt e : TypeId) (k : κ) (o : Option Value) (hg : kvGet kv k = o) (z : Value) (hk : ok k) (Kk : Keying P kt ek ok) (ht : P.underlying t = some (.map kt e)) (hmap : MapK w ek ok b kv) (hz : (zeroValue e).run P w = .ok z w)
    (h : wpList P ops Q rest (a.put d (.tuple #[o.getD z, .bool o.isSome])) (w)) (hm : a.eval m = .map (some b) := by with_unfolding_all rfl) (hx : a.eval x = ek k := by with_unfolding_all rfl) : wpList P ops Q (⟨d, .lookup t m x true, ty, pos, aft, none⟩ :: rest) a w :=
  wpList_plain rfl fun K hK => wp_lookup_ok t kt e k o hg z hk Kk ht hmap hz (hK _ _ h) hm hx

theorem wp_lookup (t kt e : TypeId) (k : κ) (o : Option Value) (hg : kvGet kv k = o) (z : Value) (hk : ok k) (Kk : Keying P kt ek ok) (ht : P.underlying t = some (.map kt e)) (hmap : MapK w ek ok b kv) (hz : (zeroValue e).run P w = .ok z w)
    (h : K (a.put d (o.getD z)) (w)) (hm : a.eval m = .map (some b) := by with_unfolding_all rfl) (hx : a.eval x = ek k := by with_unfolding_all rfl) : Oper.wp P ⟨d, .lookup t m x false, ty, pos, aft, gd⟩ a w K Q := by
  subst hg
  refine wp_run ?_ h
  simp only [execOp, hm, hx, Sem.run_bind, run_lookup_kv Kk ht hmap k hk hz, Result.andThen_ok]
  rfl
theorem l_lookup (t kt e : TypeId) (k : κ) (o : Option Value) (hg : kvGet kv k = o) (z : Value) (hk : ok k) (Kk : Keying P kt ek ok) (ht : P.underlying t = some (.map kt e)) (hmap : MapK w ek ok b kv) (hz : (zeroValue e).run P w = .ok z w)
    (h : wpList P ops Q rest (a.put d (o.getD z)) (w)) (hm : a.eval m = .map (some b) := by with_unfolding_all rfl) (hx : a.eval x = ek k := by with_unfolding_all rfl) : wpList P ops Q (⟨d, .lookup t m x false, ty, pos, aft, none⟩ :: rest) a w :=
  wpList_plain rfl fun K hK => wp_lookup t kt e k o hg z hk Kk ht hmap hz (hK _ _ h) hm hx

theorem wp_delete (t kt e : TypeId) (k : κ) (hk : ok k) (Kk : Keying P kt ek ok) (ht : P.underlying t = some (.map kt e)) (hmap : MapK w ek ok b kv)
    (h : ∀ o, MapK (setBlock w b o) ek ok b (kvDel kv k) → K (a.put d (.tuple #[])) (setBlock w b o)) (hm : a.eval m = .map (some b) := by with_unfolding_all rfl) (hx : a.eval x = ek k := by with_unfolding_all rfl) : Oper.wp P ⟨d, .call { callee := .builtin .delete, args := #[m, x], argTypes := #[t, kt] }, ty, pos, aft, gd⟩ a w K Q := by
  obtain ⟨o, hr, hm'⟩ := run_delete_kv (ty := ty) Kk ht hmap k hk
  refine wp_run ?_ (h o hm')
  simp only [execOp, resolve, invoke, builtin, Sem.run_bind, Sem.run_pure, Result.andThen_ok, List.map_toArray, List.map_cons, List.map_nil, hm, hx, hr]
theorem l_delete (t kt e : TypeId) (k : κ) (hk : ok k) (Kk : Keying P kt ek ok) (ht : P.underlying t = some (.map kt e)) (hmap : MapK w ek ok b kv)
    (h : ∀ o, MapK (setBlock w b o) ek ok b (kvDel kv k) → wpList P ops Q rest (a.put d (.tuple #[])) (setBlock w b o)) (hm : a.eval m = .map (some b) := by with_unfolding_all rfl) (hx : a.eval x = ek k := by with_unfolding_all rfl) : wpList P ops Q (⟨d, .call { callee := .builtin .delete, args := #[m, x], argTypes := #[t, kt] }, ty, pos, aft, none⟩ :: rest) a w :=
  wpList_plain rfl fun K hK => wp_delete t kt e k hk Kk ht hmap (fun y0 y1 => hK _ _ (h y0 y1)) hm hx

theorem wp_mapUpdate (t kt e : TypeId) (k : κ) (hk : ok k) (Kk : Keying P kt ek ok) (ht : P.underlying t = some (.map kt e)) (hmap : MapK w ek ok b kv)
    (h : ∀ o v, v = a.eval y → MapK (setBlock w b o) ek ok b (kvSet kv k v) → K (a.put d undef) (setBlock w b o)) (hm : a.eval m = .map (some b) := by with_unfolding_all rfl) (hx : a.eval x = ek k := by with_unfolding_all rfl) : Oper.wp P ⟨d, .mapUpdate t m x y, ty, pos, aft, gd⟩ a w K Q := by
  obtain ⟨o, hr, hm'⟩ := run_mapUpdate_kv Kk ht hmap k hk (a.eval y)
  refine wp_run_skip ?_ (h o _ rfl hm')
  simp only [execOp, hm, hx, Sem.run_bind, hr, Result.andThen_ok]
  rfl
theorem l_mapUpdate (t kt e : TypeId) (k : κ) (hk : ok k) (Kk : Keying P kt ek ok) (ht : P.underlying t = some (.map kt e)) (hmap : MapK w ek ok b kv)
    (h : ∀ o v, v = a.eval y → MapK (setBlock w b o) ek ok b (kvSet kv k v) → wpList P ops Q rest (a.put d undef) (setBlock w b o)) (hm : a.eval m = .map (some b) := by with_unfolding_all rfl) (hx : a.eval x = ek k := by with_unfolding_all rfl) : wpList P ops Q (⟨d, .mapUpdate t m x y, ty, pos, aft, none⟩ :: rest) a w :=
  wpList_plain rfl fun K hK => wp_mapUpdate t kt e k hk Kk ht hmap (fun y0 y1 y2 y3 => hK _ _ (h y0 y1 y2 y3)) hm hx

omit [DecidableEq κ] in
theorem wp_len_map (t kt e : TypeId) (ht : P.underlying t = some (.map kt e)) (hmap : MapK w ek ok b kv)
    (h : K (a.put d (.int .i64 kv.length)) (w)) (hm : a.eval m = .map (some b) := by with_unfolding_all rfl) : Oper.wp P ⟨d, .call { callee := .builtin .len, args := #[m], argTypes := #[t] }, ty, pos, aft, gd⟩ a w K Q := by
  refine wp_run ?_ h
  simp only [execOp, resolve, invoke, builtin, Sem.run_bind, Sem.run_pure, Result.andThen_ok, List.map_toArray, List.map_cons, List.map_nil, hm, run_len_kv (ty := ty) ht hmap]
omit [DecidableEq κ] in
theorem l_len_map (t kt e : TypeId) (ht : P.underlying t = some (.map kt e)) (hmap : MapK w ek ok b kv)
    (h : wpList P ops Q rest (a.put d (.int .i64 kv.length)) (w)) (hm : a.eval m = .map (some b) := by with_unfolding_all rfl) : wpList P ops Q (⟨d, .call { callee := .builtin .len, args := #[m], argTypes := #[t] }, ty, pos, aft, none⟩ :: rest) a w :=
  wpList_plain rfl fun K hK => wp_len_map t kt e ht hmap (hK _ _ h) hm

theorem wp_mapEntry (t kt e : TypeId) (k : κ) (z : Value) (hk : ok k) (Kk : Keying P kt ek ok) (ht : P.underlying t = some (.map kt e)) (hmap : MapK w ek ok b kv) (hz : (zeroValue e).run P w = .ok z w)
    (h : ∀ o st, EntryK (setBlock w b o) ek ok b kv k st → K (a.put d (.tuple #[(kvGet kv k).getD z, .int .i64 (st : Nat)])) (setBlock w b o)) (hm : a.eval m = .map (some b) := by with_unfolding_all rfl) (hx : a.eval x = ek k := by with_unfolding_all rfl) : Oper.wp P ⟨d, .mapEntry t m x, ty, pos, aft, gd⟩ a w K Q := by
  obtain ⟨o, st, hr, hm'⟩ := run_mapEntry_kv Kk ht hmap k hk hz
  refine wp_run ?_ (h o st hm')
  simp only [execOp, hm, hx, Sem.run_bind, hr, Result.andThen_ok]
  rfl
theorem l_mapEntry (t kt e : TypeId) (k : κ) (z : Value) (hk : ok k) (Kk : Keying P kt ek ok) (ht : P.underlying t = some (.map kt e)) (hmap : MapK w ek ok b kv) (hz : (zeroValue e).run P w = .ok z w)
    (h : ∀ o st, EntryK (setBlock w b o) ek ok b kv k st → wpList P ops Q rest (a.put d (.tuple #[(kvGet kv k).getD z, .int .i64 (st : Nat)])) (setBlock w b o)) (hm : a.eval m = .map (some b) := by with_unfolding_all rfl) (hx : a.eval x = ek k := by with_unfolding_all rfl) : wpList P ops Q (⟨d, .mapEntry t m x, ty, pos, aft, none⟩ :: rest) a w :=
  wpList_plain rfl fun K hK => wp_mapEntry t kt e k z hk Kk ht hmap hz (fun y0 y1 y2 => hK _ _ (h y0 y1 y2)) hm hx

theorem wp_entryStore (t : TypeId) (k : κ) (st : Nat) (hmap : EntryK w ek ok b kv k st)
    (h : ∀ o v, v = a.eval y → MapK (setBlock w b o) ek ok b (kvSet kv k v) → K (a.put d undef) (setBlock w b o)) (hm : a.eval m = .map (some b) := by with_unfolding_all rfl) (hx : a.eval x = .int .i64 st := by with_unfolding_all rfl) : Oper.wp P ⟨d, .entryStore t m x y, ty, pos, aft, gd⟩ a w K Q := by
  obtain ⟨o, hr, hm'⟩ := run_entryStore_kv (P := P) (t := t) hmap (a.eval y)
  refine wp_run_skip ?_ (h o _ rfl hm')
  simp only [execOp, hm, hx, Sem.run_bind, hr, Result.andThen_ok]
  rfl
theorem l_entryStore (t : TypeId) (k : κ) (st : Nat) (hmap : EntryK w ek ok b kv k st)
    (h : ∀ o v, v = a.eval y → MapK (setBlock w b o) ek ok b (kvSet kv k v) → wpList P ops Q rest (a.put d undef) (setBlock w b o)) (hm : a.eval m = .map (some b) := by with_unfolding_all rfl) (hx : a.eval x = .int .i64 st := by with_unfolding_all rfl) : wpList P ops Q (⟨d, .entryStore t m x y, ty, pos, aft, none⟩ :: rest) a w :=
  wpList_plain rfl fun K hK => wp_entryStore t k st hmap (fun y0 y1 y2 y3 => hK _ _ (h y0 y1 y2 y3)) hm hx

omit [DecidableEq κ] in
theorem wp_range_map (t kt e : TypeId) (ht : P.underlying t = some (.map kt e)) (hmap : MapK w ek ok b kv)
    (h : ∀ w', RangeK w' ek ok b w.heap.size kv kv → Only Nobody w w' → w'.heap.size = w.heap.size + 1 → K (a.put d (.pointer (some ⟨w.heap.size, 0, none⟩))) (w')) (hm : a.eval m = .map (some b) := by with_unfolding_all rfl) : Oper.wp P ⟨d, .range t m, ty, pos, aft, gd⟩ a w K Q := by
  obtain ⟨hr, hk⟩ := run_range_kv ht hmap
  refine wp_run ?_ (h _ hk ((Only.refl _ _).alloc _) (by simp))
  simp only [execOp, hm, Sem.run_bind, hr, Result.andThen_ok]
  rfl
omit [DecidableEq κ] in
theorem l_range_map (t kt e : TypeId) (ht : P.underlying t = some (.map kt e)) (hmap : MapK w ek ok b kv)
    (h : ∀ w', RangeK w' ek ok b w.heap.size kv kv → Only Nobody w w' → w'.heap.size = w.heap.size + 1 → wpList P ops Q rest (a.put d (.pointer (some ⟨w.heap.size, 0, none⟩))) (w')) (hm : a.eval m = .map (some b) := by with_unfolding_all rfl) : wpList P ops Q (⟨d, .range t m, ty, pos, aft, none⟩ :: rest) a w :=
  wpList_plain rfl fun K hK => wp_range_map t kt e ht hmap (fun y0 y1 y2 y3 => hK _ _ (h y0 y1 y2 y3)) hm

theorem wp_next_map {kt : TypeId} {r : Nat} {rem : List (κ × Value)} (Kk : Keying P kt ek ok) (hmap : RangeK w ek ok b r kv rem)
    (h0 : rem = [] → K (a.put d (.tuple #[.bool false])) (w)) (h : ∀ p w', p ∈ rem → RangeK w' ek ok b r kv (kvDel rem p.1) → Only (fun k => k = r) w w' → w'.heap.size = w.heap.size → (Instr.entry (.pointer (some ⟨r, 0, none⟩))).run P w' = .ok (.tuple #[ek p.1, p.2]) w' → K (a.put d (.tuple #[.bool true, ek p.1, p.2])) (w')) (hm : a.eval m = .pointer (some ⟨r, 0, none⟩) := by with_unfolding_all rfl) : Oper.wp P ⟨d, .next m false, ty, pos, aft, gd⟩ a w K Q := by
  rcases run_next_kv Kk hmap ty with ⟨h1, hr⟩ | ⟨p, w', hp, hr, h2, h3, h4, h5⟩
  · refine wp_run ?_ (h0 h1)
    simp only [execOp, hm, Sem.run_bind, hr, Result.andThen_ok]
    rfl
  · refine wp_run ?_ (h p w' hp h2 h3 h4 h5)
    simp only [execOp, hm, Sem.run_bind, hr, Result.andThen_ok]
    rfl
theorem l_next_map {kt : TypeId} {r : Nat} {rem : List (κ × Value)} (Kk : Keying P kt ek ok) (hmap : RangeK w ek ok b r kv rem)
    (h0 : rem = [] → wpList P ops Q rest (a.put d (.tuple #[.bool false])) (w)) (h : ∀ p w', p ∈ rem → RangeK w' ek ok b r kv (kvDel rem p.1) → Only (fun k => k = r) w w' → w'.heap.size = w.heap.size → (Instr.entry (.pointer (some ⟨r, 0, none⟩))).run P w' = .ok (.tuple #[ek p.1, p.2]) w' → wpList P ops Q rest (a.put d (.tuple #[.bool true, ek p.1, p.2])) (w')) (hm : a.eval m = .pointer (some ⟨r, 0, none⟩) := by with_unfolding_all rfl) : wpList P ops Q (⟨d, .next m false, ty, pos, aft, none⟩ :: rest) a w :=
  wpList_plain rfl fun K hK => wp_next_map Kk hmap (fun e => hK _ _ (h0 e)) (fun y0 y1 y2 y3 y4 y5 y6 => hK _ _ (h y0 y1 y2 y3 y4 y5 y6)) hm

/-- a range that is at its end; a range that is not. -/
theorem l_next_end {kt : TypeId} {r : Nat} (Kk : Keying P kt ek ok) (hmap : RangeK w ek ok b r kv [])
    (h : wpList P ops Q rest (a.put d (.tuple #[.bool false])) w) (hm : a.eval m = .pointer (some ⟨r, 0, none⟩) := by with_unfolding_all rfl) : wpList P ops Q (⟨d, .next m false, ty, pos, aft, none⟩ :: rest) a w :=
  l_next_map Kk hmap (fun _ => h) (fun _ _ hp => by cases hp) hm
theorem l_next_more {kt : TypeId} {r : Nat} {rem : List (κ × Value)} (hne : rem ≠ []) (Kk : Keying P kt ek ok) (hmap : RangeK w ek ok b r kv rem)
    (h : ∀ p w', p ∈ rem → RangeK w' ek ok b r kv (kvDel rem p.1) → Only (fun k => k = r) w w' → w'.heap.size = w.heap.size → (Instr.entry (.pointer (some ⟨r, 0, none⟩))).run P w' = .ok (.tuple #[ek p.1, p.2]) w' → wpList P ops Q rest (a.put d (.tuple #[.bool true, ek p.1, p.2])) w') (hm : a.eval m = .pointer (some ⟨r, 0, none⟩) := by with_unfolding_all rfl) :
    wpList P ops Q (⟨d, .next m false, ty, pos, aft, none⟩ :: rest) a w :=
  l_next_map Kk hmap (fun e => absurd e hne) h hm
end
end Go.GwYtckgjiiogmcbmaa
