/-
  A map's block as a list of keys and values (MapK): what a lookup, a store, a deletion, the length and a range over it do. No condition but that the keys are of a kind that can be a key.
-/
import Derived.Test.YtckgjiiogmcbmaaBase
namespace Go.GwYtckgjiiogmcbmaa
open Go.RowKit Go.MapKept Go.Maps
open Go.ChangeMaps (setBlock)

/-! ### lists of keys and values -/
section
variable {κ ν : Type} [DecidableEq κ]
def kvGet (l : List (κ × ν)) (k : κ) : Option ν := (l.find? fun p => p.1 = k).map (·.2)
def kvSet (l : List (κ × ν)) (k : κ) (v : ν) : List (κ × ν) := if (kvGet l k).isSome then l.map (fun p => if p.1 = k then (k, v) else p) else l ++ [(k, v)]
def kvDel (l : List (κ × ν)) (k : κ) : List (κ × ν) := l.filter fun p => p.1 ≠ k

theorem kvGet_nil (k : κ) : kvGet ([] : List (κ × ν)) k = none := rfl
theorem kvGet_cons (p : κ × ν) (l : List (κ × ν)) (k : κ) : kvGet (p :: l) k = if p.1 = k then some p.2 else kvGet l k := by
  unfold kvGet
  rw [List.find?_cons]
  by_cases h : p.1 = k <;> simp [h]
theorem kvGet_none {l : List (κ × ν)} {k : κ} : kvGet l k = none ↔ ∀ p ∈ l, p.1 ≠ k := by
  unfold kvGet
  simp
theorem kvGet_mem {l : List (κ × ν)} {k : κ} {v : ν} (h : kvGet l k = some v) : (k, v) ∈ l := by
  unfold kvGet at h
  obtain ⟨p, hp, rfl⟩ := Option.map_eq_some_iff.1 h
  have h1 := List.find?_some hp
  have h2 := List.mem_of_find?_eq_some hp
  simp at h1
  obtain ⟨a, b⟩ := p
  simp at h1
  subst h1
  exact h2
theorem kvGet_of_mem {l : List (κ × ν)} {k : κ} {v : ν} (hn : (l.map (·.1)).Nodup) (h : (k, v) ∈ l) : kvGet l k = some v := by
  induction l with
  | nil => cases h
  | cons p l ih =>
    simp only [List.map_cons, List.nodup_cons] at hn
    rw [kvGet_cons]
    rcases List.mem_cons.1 h with e | h
    · subst e; simp
    · rw [if_neg (fun e => hn.1 (List.mem_map.2 ⟨(k, v), h, e.symm⟩))]
      exact ih hn.2 h
theorem kvGet_append {l m : List (κ × ν)} {k : κ} : kvGet (l ++ m) k = (kvGet l k).or (kvGet m k) := by
  induction l with
  | nil => simp [kvGet_nil]
  | cons p l ih => rw [List.cons_append, kvGet_cons, kvGet_cons, ih]; split <;> simp
theorem kvGet_set (l : List (κ × ν)) (k j : κ) (v : ν) : kvGet (kvSet l k v) j = if j = k then some v else kvGet l j := by
  unfold kvSet
  split
  · rename_i hs
    have key : ∀ m : List (κ × ν), kvGet (m.map fun p => if p.1 = k then (k, v) else p) j = if j = k then (if (kvGet m k).isSome then some v else none) else kvGet m j := by
      intro m
      induction m with
      | nil => simp [kvGet_nil]
      | cons p m ih =>
        rw [List.map_cons, kvGet_cons, ih, kvGet_cons, kvGet_cons]
        by_cases hp : p.1 = k
        · by_cases hj : j = k
          · simp [hp, hj]
          · simp [hp, hj, Ne.symm hj]
        · by_cases hj : j = k
          · subst hj; simp [hp]
          · simp [hp, hj]
    rw [key, if_pos hs]
  · rename_i hs
    have hn : kvGet l k = none := by simpa using hs
    rw [kvGet_append, kvGet_cons, kvGet_nil]
    by_cases hj : j = k
    · subst hj; simp [hn]
    · simp [hj, Ne.symm hj]
theorem kvGet_del (l : List (κ × ν)) (k j : κ) : kvGet (kvDel l k) j = if j = k then none else kvGet l j := by
  unfold kvDel
  induction l with
  | nil => simp [kvGet_nil]
  | cons p l ih =>
    rw [List.filter_cons]
    by_cases hp : p.1 = k
    · simp only [hp, ne_eq, not_true_eq_false, decide_false, Bool.false_eq_true, if_false, ih, kvGet_cons]
      by_cases hj : j = k
      · simp [hj]
      · simp [hj, Ne.symm hj]
    · simp only [hp, ne_eq, not_false_eq_true, decide_true, if_true, kvGet_cons, ih]
      by_cases hj : j = k
      · subst hj; simp [hp]
      · simp [hj]
theorem kvSet_keys_nodup {l : List (κ × ν)} (hn : (l.map (·.1)).Nodup) (k : κ) (v : ν) : ((kvSet l k v).map (·.1)).Nodup := by
  unfold kvSet
  split
  · have : (l.map fun p => if p.1 = k then (k, v) else p).map (·.1) = l.map (·.1) := by
      rw [List.map_map]
      apply List.map_congr_left
      intro p _
      simp only [Function.comp]
      split <;> simp_all
    rw [this]; exact hn
  · rename_i hs
    have hnone : kvGet l k = none := by simpa using hs
    rw [List.map_append, List.nodup_append]
    refine ⟨hn, by simp, ?_⟩
    intro a ha b hb e
    simp at hb
    subst hb; subst e
    obtain ⟨p, hp, rfl⟩ := List.mem_map.1 ha
    exact kvGet_none.1 hnone p hp rfl
theorem kvDel_keys_nodup {l : List (κ × ν)} (hn : (l.map (·.1)).Nodup) (k : κ) : ((kvDel l k).map (·.1)).Nodup := by
  unfold kvDel
  exact (List.filter_sublist.map _).nodup hn
theorem kvDel_none {l : List (κ × ν)} {k : κ} (h : kvGet l k = none) : kvDel l k = l := by
  unfold kvDel
  rw [List.filter_eq_self]
  intro p hp
  simpa using kvGet_none.1 h p hp
theorem kvDel_perm {l : List (κ × ν)} (hn : (l.map (·.1)).Nodup) {p : κ × ν} (h : p ∈ l) : l.Perm (p :: kvDel l p.1) := by
  induction l with
  | nil => cases h
  | cons q l ih =>
    simp only [List.map_cons, List.nodup_cons] at hn
    rcases List.mem_cons.1 h with rfl | h
    · have : kvGet l p.1 = none := kvGet_none.2 fun q hq e => hn.1 (List.mem_map.2 ⟨q, hq, e⟩)
      have hd := kvDel_none this
      unfold kvDel at hd ⊢
      rw [List.filter_cons, if_neg (by simp), hd]
    · have hq : q.1 ≠ p.1 := fun e => hn.1 (List.mem_map.2 ⟨p, h, e.symm⟩)
      have := ih hn.2 h
      unfold kvDel at this ⊢
      rw [List.filter_cons, if_pos (by simp [hq])]
      exact (List.Perm.cons q this).trans (List.Perm.swap p q _)
theorem kvDel_length {l : List (κ × ν)} (hn : (l.map (·.1)).Nodup) {k : κ} {v : ν} (h : kvGet l k = some v) : (kvDel l k).length + 1 = l.length := by
  induction l with
  | nil => simp [kvGet_nil] at h
  | cons p l ih =>
    simp only [List.map_cons, List.nodup_cons] at hn
    rw [kvGet_cons] at h
    by_cases hp : p.1 = k
    · have : kvGet l k = none := kvGet_none.2 fun q hq e => hn.1 (List.mem_map.2 ⟨q, hq, by rw [hp]; exact e⟩)
      have hd := kvDel_none this
      unfold kvDel at hd ⊢
      rw [List.filter_cons, if_neg (by simp [hp]), hd]
      simp
    · rw [if_neg hp] at h
      have := ih hn.2 h
      unfold kvDel at this ⊢
      rw [List.filter_cons, if_pos (by simp [hp])]
      simp only [List.length_cons]
      omega
theorem kvSet_length (l : List (κ × ν)) (k : κ) (v : ν) : (kvSet l k v).length = l.length + if (kvGet l k).isSome then 0 else 1 := by
  unfold kvSet
  split <;> simp_all
end

/-! ### a map's block -/
section
variable {κ : Type}
/-- the values ek k are keys of the type kt, no two of them one. -/
structure Keying (P : Program) (kt : TypeId) (ek : κ → Value) (ok : κ → Prop) : Prop where
  keyed : Keyed P kt
  lit : ∀ k, ok k → ∃ l, keyOf P kt (ek k) = some l
  inj : ∀ a b, ok a → ok b → ek a = ek b → a = b

/-- block b is a map of just these keys and values, in the order in which they came. -/
def MapK (w : World) (ek : κ → Value) (ok : κ → Prop) (b : Nat) (kv : List (κ × Value)) : Prop :=
  ∃ es clock, w.heap[b]? = some (.map es clock) ∧ Stamped es clock ∧ es.toList.map (fun e => (e.key, e.val)) = kv.map (fun p => (ek p.1, p.2)) ∧ ∀ p ∈ kv, ok p.1

variable {w w' : World} {ek : κ → Value} {ok : κ → Prop} {b : Nat} {kv : List (κ × Value)}
theorem MapK.lt (h : MapK w ek ok b kv) : b < w.heap.size := by obtain ⟨es, clock, hb, _⟩ := h; exact (Array.getElem?_eq_some_iff.1 hb).1
theorem MapK.keep {S : Nat → Prop} (h : MapK w ek ok b kv) (ho : Only S w w') (hn : ¬ S b) : MapK w' ek ok b kv := by
  obtain ⟨es, clock, hb, r⟩ := h; exact ⟨es, clock, ho.obj hb hn, r⟩
theorem MapK.made (w : World) (ek : κ → Value) (ok : κ → Prop) : MapK (w.alloc (.map #[] 0)) ek ok w.heap.size [] :=
  ⟨#[], 0, (heap_alloc w _).1, stamped_empty 0, rfl, by simp⟩
theorem MapK.cells_ne {g : Nat} {t : TypeId} {cs : Array Value} (h : MapK w ek ok b kv) (hc : Cells w g t cs) : g ≠ b := by
  rintro rfl
  obtain ⟨es, clock, hb, _⟩ := h
  unfold Cells at hc
  rw [hb] at hc
  cases hc
theorem keys_nodup {P : Program} {kt : TypeId} (K : Keying P kt ek ok) {es : Array MapEntry} {clock : Nat} (hs : Stamped es clock) (hkv : es.toList.map (fun e => (e.key, e.val)) = kv.map (fun p => (ek p.1, p.2))) (hok : ∀ p ∈ kv, ok p.1) : (kv.map (·.1)).Nodup := by
  have h3 := hs.2.2
  have : es.toList.map (·.key) = kv.map (fun p => ek p.1) := by
    have := congrArg (List.map Prod.fst) hkv
    rw [List.map_map, List.map_map] at this
    exact this
  rw [this] at h3
  clear hkv this
  induction kv with
  | nil => simp
  | cons p l ih =>
    simp only [List.map_cons, List.nodup_cons] at h3 ⊢
    refine ⟨fun hm => h3.1 ?_, ih (fun p hp => hok p (by simp [hp])) h3.2⟩
    obtain ⟨q, hq, e⟩ := List.mem_map.1 hm
    exact List.mem_map.2 ⟨q, hq, by rw [e]⟩
theorem MapK.nodup {P : Program} {kt : TypeId} (K : Keying P kt ek ok) (h : MapK w ek ok b kv) : (kv.map (·.1)).Nodup := by
  obtain ⟨es, clock, hb, hs, hkv, hok⟩ := h
  exact keys_nodup K hs hkv hok

/-- how a key is found. -/
theorem find_kv [DecidableEq κ] {P : Program} {kt : TypeId} (K : Keying P kt ek ok) {es : Array MapEntry} {clock : Nat} (hs : Stamped es clock) (hkv : es.toList.map (fun e => (e.key, e.val)) = kv.map (fun p => (ek p.1, p.2))) (hok : ∀ p ∈ kv, ok p.1) (k : κ) (hk : ok k) (w : World) :
    ((Instr.findKey kt (ek k) es.toList).run P w = .ok none w ∧ kvGet kv k = none ∧ ∀ x ∈ es.toList, x.key ≠ ek k) ∨
    ∃ j e, (Instr.findKey kt (ek k) es.toList).run P w = .ok (some (j, e.val)) w ∧ es.toList[j]? = some e ∧ e.key = ek k ∧ kvGet kv k = some e.val ∧ kv[j]? = some (k, e.val) := by
  obtain ⟨l, hl⟩ := K.lit k hk
  have hes : ∀ e ∈ es.toList, ∃ l, keyOf P kt e.key = some l := by
    intro e he
    have : (e.key, e.val) ∈ kv.map (fun p => (ek p.1, p.2)) := by rw [← hkv]; exact List.mem_map.2 ⟨e, he, rfl⟩
    obtain ⟨p, hp, e'⟩ := List.mem_map.1 this
    obtain ⟨l, hl⟩ := K.lit p.1 (hok p hp)
    simp only [Prod.mk.injEq] at e'
    exact ⟨l, by rw [← e'.1]; exact hl⟩
  rcases K.keyed.find w hl es.toList hes with ⟨h1, h2⟩ | ⟨j, e, h1, h2, h3⟩
  · refine .inl ⟨h1, kvGet_none.2 fun p hp e => ?_, h2⟩
    have : (ek p.1, p.2) ∈ es.toList.map (fun e => (e.key, e.val)) := by rw [hkv]; exact List.mem_map.2 ⟨p, hp, rfl⟩
    obtain ⟨x, hx, e'⟩ := List.mem_map.1 this
    simp only [Prod.mk.injEq] at e'
    exact h2 x hx (by rw [e'.1, e])
  · have hj : (es.toList.map (fun e => (e.key, e.val)))[j]? = some (e.key, e.val) := by rw [List.getElem?_map, h2]; rfl
    rw [hkv, List.getElem?_map] at hj
    obtain ⟨p, hp, e'⟩ := Option.map_eq_some_iff.1 hj
    simp only [Prod.mk.injEq] at e'
    have hpk : p.1 = k := K.inj _ _ (hok p (List.mem_of_getElem? hp)) hk (by rw [e'.1, h3])
    obtain ⟨a, c⟩ := p
    simp only at hpk e'
    subst hpk
    have hm : (a, e.val) ∈ kv := by rw [← e'.2]; exact List.mem_of_getElem? hp
    exact .inr ⟨j, e, h1, h2, h3, kvGet_of_mem (keys_nodup K hs hkv hok) hm, by rw [hp, e'.2]⟩

theorem run_lookup_kv [DecidableEq κ] {P : Program} {t kt e : TypeId} (K : Keying P kt ek ok) (ht : P.underlying t = some (.map kt e)) (h : MapK w ek ok b kv) (k : κ) (hk : ok k) {z : Value} (hz : (zeroValue e).run P w = .ok z w) (c : Bool) :
    (Instr.lookup t (.map (some b)) (ek k) c).run P w = .ok (if c then .tuple #[(kvGet kv k).getD z, .bool (kvGet kv k).isSome] else (kvGet kv k).getD z) w := by
  obtain ⟨es, clock, hb, hs, hkv, hok⟩ := h
  obtain ⟨l, hl⟩ := K.lit k hk
  have hck := K.keyed.check w es.isEmpty hl
  rcases find_kv K hs hkv hok k hk w with ⟨hf, hg, _⟩ | ⟨j, x, hf, _, _, hg, _⟩
  · cases c <;> simp [Instr.lookup, run_underlying ht, MapKept.run_getObj_map hb, hck, hf, hg, hz]
  · cases c <;> simp [Instr.lookup, run_underlying ht, MapKept.run_getObj_map hb, hck, hf, hg]
theorem run_lookup_nil {P : Program} {t kt e : TypeId} (K : Keying P kt ek ok) (ht : P.underlying t = some (.map kt e)) (k : κ) (hk : ok k) {z : Value} (hz : (zeroValue e).run P w = .ok z w) (c : Bool) :
    (Instr.lookup t (.map none) (ek k) c).run P w = .ok (if c then .tuple #[z, .bool false] else z) w := by
  obtain ⟨l, hl⟩ := K.lit k hk
  have hck := K.keyed.check w true hl
  have hf : (Instr.findKey kt (ek k) []).run P w = .ok none w := by
    rcases K.keyed.find w hl [] (by simp) with ⟨h1, _⟩ | ⟨j, e, _, h2, _⟩
    · exact h1
    · simp at h2
  cases c <;> simp [Instr.lookup, run_underlying ht, hck, hf, hz]

theorem run_mapUpdate_kv [DecidableEq κ] {P : Program} {t kt e : TypeId} (K : Keying P kt ek ok) (ht : P.underlying t = some (.map kt e)) (h : MapK w ek ok b kv) (k : κ) (hk : ok k) (v : Value) :
    ∃ o, (Instr.mapUpdate t (.map (some b)) (ek k) v).run P w = .ok () (setBlock w b o) ∧ MapK (setBlock w b o) ek ok b (kvSet kv k v) := by
  obtain ⟨es, clock, hb, hs, hkv, hok⟩ := h
  obtain ⟨l, hl⟩ := K.lit k hk
  have hck := K.keyed.check w false hl
  rcases find_kv K hs hkv hok k hk w with ⟨hf, hg, hne⟩ | ⟨j, x, hf, hx, hxk, hg, hj⟩
  · refine ⟨.map (es.push { key := ek k, val := v, born := clock }) (clock + 1), ?_, ?_⟩
    · simp [Instr.mapUpdate, run_underlying ht, MapKept.run_getObj_map hb, hck, hf, MapKept.run_setObj_map _ hb, setBlock]
    · refine ⟨_, _, (heap_set hb).1, stamped_push hs hne, ?_, ?_⟩
      · simp [kvSet, hg, hkv]
      · intro p hp
        simp only [kvSet, hg, Option.isSome_none, Bool.false_eq_true, if_false, List.mem_append, List.mem_singleton] at hp
        rcases hp with hp | rfl
        · exact hok p hp
        · exact hk
  · have hx' : es[j]? = some x := by simpa using hx
    have hst : (Instr.keyThatStays (((es[j]?).map (·.key)).getD (ek k)) (ek k)).run P w = .ok (ek k) w := by rw [hx']; simp only [Option.map_some, Option.getD_some, hxk]; exact K.keyed.stays w hl
    refine ⟨.map (es.modify j fun e => { e with key := ek k, val := v }) clock, ?_, ?_⟩
    · simp [Instr.mapUpdate, run_underlying ht, MapKept.run_getObj_map hb, hck, hf, MapKept.run_setObj_map _ hb, setBlock, hst]
    · refine ⟨_, _, (heap_set hb).1, stamped_modify hs j _ (fun e _ => rfl) (fun e _ he => by rw [hx'] at he; cases he; exact hxk.symm), ?_, ?_⟩
      · apply List.ext_getElem?
        intro i
        have h1 : (kv.map (fun p => (ek p.1, p.2)))[i]? = (es.toList.map (fun e => (e.key, e.val)))[i]? := by rw [hkv]
        simp only [List.getElem?_map] at h1
        simp only [kvSet, hg, Option.isSome_some, if_true, List.getElem?_map, Array.getElem?_toList, Array.getElem?_modify]
        simp only [Array.getElem?_toList] at h1
        by_cases hij : j = i
        · subst hij
          rw [if_pos rfl, hx', hj]
          simp
        · rw [if_neg hij]
          cases hi : kv[i]? with
          | none => rw [hi] at h1; simpa using h1.symm
          | some p =>
            rw [hi] at h1
            have hpk : p.1 ≠ k := by
              intro e
              have hnd := keys_nodup K hs hkv hok
              have e1 : (kv.map (·.1))[i]? = some k := by rw [List.getElem?_map, hi]; simp [e]
              have e2 : (kv.map (·.1))[j]? = some k := by rw [List.getElem?_map, hj]; rfl
              obtain ⟨l1, e1⟩ := List.getElem?_eq_some_iff.1 e1
              obtain ⟨l2, e2⟩ := List.getElem?_eq_some_iff.1 e2
              rcases Nat.lt_or_gt_of_ne hij with hlt | hlt
              · exact List.pairwise_iff_getElem.1 hnd j i l2 l1 hlt (by rw [e1, e2])
              · exact List.pairwise_iff_getElem.1 hnd i j l1 l2 hlt (by rw [e1, e2])
            simp [hpk, ← h1]
      · intro p hp
        simp only [kvSet, hg, Option.isSome_some, if_true] at hp
        obtain ⟨q, hq, rfl⟩ := List.mem_map.1 hp
        split
        · exact hk
        · exact hok q hq

theorem run_delete_kv [DecidableEq κ] {P : Program} {t kt e ty : TypeId} (K : Keying P kt ek ok) (ht : P.underlying t = some (.map kt e)) (h : MapK w ek ok b kv) (k : κ) (hk : ok k) :
    ∃ o, (Builtin.delete_ #[t, kt] ty #[.map (some b), ek k]).run P w = .ok (.tuple #[]) (setBlock w b o) ∧ MapK (setBlock w b o) ek ok b (kvDel kv k) := by
  obtain ⟨es, clock, hb, hs, hkv, hok⟩ := h
  obtain ⟨l, hl⟩ := K.lit k hk
  have hck := K.keyed.check w es.isEmpty hl
  rcases find_kv K hs hkv hok k hk w with ⟨hf, hg, hne⟩ | ⟨j, x, hf, hx, hxk, hg, hj⟩
  · refine ⟨.map es clock, ?_, ?_⟩
    · simp [Builtin.delete_, run_underlying ht, MapKept.run_getObj_map hb, hck, hf, MapKept.run_setObj_map _ hb, setBlock]
    · exact ⟨_, _, (heap_set hb).1, hs, by rw [kvDel_none hg]; exact hkv, by rw [kvDel_none hg]; exact hok⟩
  · refine ⟨.map (es.eraseIdxIfInBounds j) clock, ?_, ?_⟩
    · simp [Builtin.delete_, run_underlying ht, MapKept.run_getObj_map hb, hck, hf, MapKept.run_setObj_map _ hb, setBlock]
    · refine ⟨_, _, (heap_set hb).1, stamped_erase hs j, ?_, fun p hp => hok p (List.mem_filter.1 hp).1⟩
      have hnd := keys_nodup K hs hkv hok
      have e1 : kvDel kv k = kv.eraseIdx j := by
        clear hkv hok hg hf hx hs hb
        induction kv generalizing j with
        | nil => simp at hj
        | cons p l ih =>
          simp only [List.map_cons, List.nodup_cons] at hnd
          cases j with
          | zero =>
            simp only [List.getElem?_cons_zero, Option.some.injEq] at hj
            subst hj
            have : kvGet l k = none := kvGet_none.2 fun q hq e => hnd.1 (List.mem_map.2 ⟨q, hq, e⟩)
            have := kvDel_none this
            unfold kvDel at this ⊢
            rw [List.filter_cons, if_neg (by simp), this]
            simp
          | succ j =>
            simp only [List.getElem?_cons_succ] at hj
            have hpk : p.1 ≠ k := fun e => hnd.1 (List.mem_map.2 ⟨(k, x.val), List.mem_of_getElem? hj, e.symm⟩)
            have := ih j hj hnd.2
            unfold kvDel at this ⊢
            rw [List.filter_cons, if_pos (by simp [hpk]), this]
            simp
      rw [e1]
      have e2 : (es.eraseIdxIfInBounds j).toList = es.toList.eraseIdx j := by simp
      rw [e2, ChangeMaps.map_eraseIdx, hkv, ChangeMaps.map_eraseIdx]

theorem run_len_kv {P : Program} {t kt e ty : TypeId} (ht : P.underlying t = some (.map kt e)) (h : MapK w ek ok b kv) :
    (Builtin.len_ #[t] ty #[.map (some b)]).run P w = .ok (.int .i64 kv.length) w := by
  obtain ⟨es, clock, hb, hs, hkv, hok⟩ := h
  have hl : es.size = kv.length := by have := congrArg List.length hkv; simpa using this
  simp [Builtin.len_, run_underlying ht, MapKept.run_getObj_map hb, goInt, hl]

/-- an entry with the key k and the stamp st is there: whatever is stored through the stamp, the map is then as by kvSet. -/
def EntryK [DecidableEq κ] (w : World) (ek : κ → Value) (ok : κ → Prop) (b : Nat) (kv : List (κ × Value)) (k : κ) (st : Nat) : Prop :=
  ∃ (es : Array MapEntry) (clock j : Nat), w.heap[b]? = some (.map es clock) ∧ (es.findIdx? fun e => (e.born : Int) == (st : Int)) = some j ∧
    ∀ v, Stamped (es.modify j fun e => { e with val := v }) clock ∧ ((es.modify j fun e => { e with val := v }).toList.map (fun e => (e.key, e.val)) = (kvSet kv k v).map (fun p => (ek p.1, p.2))) ∧ ∀ p ∈ kvSet kv k v, ok p.1

theorem EntryK.keep [DecidableEq κ] {S : Nat → Prop} {k : κ} {st : Nat} (h : EntryK w ek ok b kv k st) (ho : Only S w w') (hn : ¬ S b) : EntryK w' ek ok b kv k st := by
  obtain ⟨es, clock, j, hb, r⟩ := h; exact ⟨es, clock, j, ho.obj hb hn, r⟩

theorem run_entryStore_kv [DecidableEq κ] {P : Program} {t : TypeId} {k : κ} {st : Nat} (h : EntryK w ek ok b kv k st) (v : Value) :
    ∃ o, (Instr.entryStore t (.map (some b)) (.int .i64 st) v).run P w = .ok () (setBlock w b o) ∧ MapK (setBlock w b o) ek ok b (kvSet kv k v) := by
  obtain ⟨es, clock, j, hb, hf, hv⟩ := h
  refine ⟨_, ?_, _, clock, (heap_set hb).1, hv v⟩
  simp [Instr.entryStore, MapKept.run_getObj_map hb, asInt, asIntOf, hf, MapKept.run_setObj_map _ hb, setBlock]

theorem findIdx_stamp {es : Array MapEntry} {clock : Nat} (hs : Stamped es clock) {j : Nat} {x : MapEntry} (hj : es[j]? = some x) : (es.findIdx? fun e => (e.born : Int) == (x.born : Int)) = some j := by
  rw [Array.findIdx?_eq_some_iff_getElem]
  obtain ⟨hl, rfl⟩ := Array.getElem?_eq_some_iff.1 hj
  refine ⟨hl, by simp, fun i hi => ?_⟩
  have hn := List.pairwise_iff_getElem.1 hs.2.1 i j (by simp; omega) (by simpa using hl) hi
  simp at hn
  simp
  omega

theorem run_mapEntry_kv [DecidableEq κ] {P : Program} {t kt e : TypeId} (K : Keying P kt ek ok) (ht : P.underlying t = some (.map kt e)) (h : MapK w ek ok b kv) (k : κ) (hk : ok k) {z : Value} (hz : (zeroValue e).run P w = .ok z w) :
    ∃ o st, (Instr.mapEntry t (.map (some b)) (ek k)).run P w = .ok (.tuple #[(kvGet kv k).getD z, .int .i64 (st : Nat)]) (setBlock w b o) ∧ EntryK (setBlock w b o) ek ok b kv k st := by
  obtain ⟨es, clock, hb, hs, hkv, hok⟩ := h
  obtain ⟨l, hl⟩ := K.lit k hk
  have hck := K.keyed.check w false hl
  have hMK : MapK w ek ok b kv := ⟨es, clock, hb, hs, hkv, hok⟩
  rcases find_kv K hs hkv hok k hk w with ⟨hf, hg, hne⟩ | ⟨j, x, hf, hx, hxk, hg, hj⟩
  · refine ⟨.map (es.push { key := ek k, val := z, born := clock }) (clock + 1), clock, ?_, ?_⟩
    · simp [Instr.mapEntry, run_underlying ht, MapKept.run_getObj_map hb, hck, hf, hz, MapKept.run_setObj_map _ hb, setBlock, hg, goInt]
    · have hs' := stamped_push hs (key := ek k) (val := z) hne
      have hlast : (es.push { key := ek k, val := z, born := clock : MapEntry })[es.size]? = some { key := ek k, val := z, born := clock } := by simp
      refine ⟨_, _, es.size, (heap_set hb).1, findIdx_stamp hs' hlast, fun v => ⟨stamped_modify hs' _ _ (fun _ _ => rfl) (fun _ _ _ => rfl), ?_, ?_⟩⟩
      · have e1 : (es.push { key := ek k, val := z, born := clock : MapEntry }).modify es.size (fun e => { e with val := v }) = es.push { key := ek k, val := v, born := clock } := by
          apply Array.ext_getElem?
          intro i
          simp only [Array.getElem?_modify, Array.getElem?_push]
          by_cases hi : i = es.size
          · subst hi; simp
          · rw [if_neg (fun e => hi e.symm)]
            simp [hi]
        rw [e1]
        simp [kvSet, hg, hkv]
      · intro p hp
        simp only [kvSet, hg, Option.isSome_none, Bool.false_eq_true, if_false, List.mem_append, List.mem_singleton] at hp
        rcases hp with hp | rfl
        · exact hok p hp
        · exact hk
  · have hx' : es[j]? = some x := by simpa using hx
    have hst : (Instr.keyThatStays (((es[j]?).map (·.key)).getD (ek k)) (ek k)).run P w = .ok (ek k) w := by rw [hx']; simp only [Option.map_some, Option.getD_some, hxk]; exact K.keyed.stays w hl
    have e0 : (es.modify j fun e => { e with key := ek k }) = es := by
      apply Array.ext_getElem?
      intro i
      simp only [Array.getElem?_modify]
      by_cases hi : j = i
      · subst hi; rw [if_pos rfl, hx']; simp [← hxk]
      · rw [if_neg hi]
    refine ⟨.map es clock, x.born, ?_, ?_⟩
    · rw [hx'] at hst
      simp only [Option.map_some, Option.getD_some] at hst
      simp [Instr.mapEntry, run_underlying ht, MapKept.run_getObj_map hb, hck, hf, MapKept.run_setObj_map _ hb, setBlock, hst, hg, goInt, hx', e0]
    · refine ⟨es, clock, j, (heap_set hb).1, findIdx_stamp hs hx', fun v => ⟨stamped_modify hs _ _ (fun _ _ => rfl) (fun _ _ _ => rfl), ?_, ?_⟩⟩
      · obtain ⟨o, hrun, hm⟩ := run_mapUpdate_kv (P := P) (t := t) K ht hMK k hk v
        have hrun2 : (Instr.mapUpdate t (.map (some b)) (ek k) v).run P w = .ok () (setBlock w b (.map (es.modify j fun e => { e with key := ek k, val := v }) clock)) := by
          simp [Instr.mapUpdate, run_underlying ht, MapKept.run_getObj_map hb, hck, hf, MapKept.run_setObj_map _ hb, setBlock, hst]
        rw [hrun] at hrun2
        simp only [Result.ok.injEq, true_and] at hrun2
        rw [hrun2] at hm
        obtain ⟨es2, clock2, hb2, _, hkv2, _⟩ := hm
        have hb3 := (heap_set (o' := .map (es.modify j fun e => { e with key := ek k, val := v }) clock) hb).1
        have hb2' : (w.heap.setIfInBounds b (.map (es.modify j fun e => { e with key := ek k, val := v }) clock))[b]? = some (.map es2 clock2) := hb2
        rw [hb3] at hb2'
        cases hb2'
        rw [← hkv2]
        congr 2
        apply Array.ext_getElem?
        intro i
        simp only [Array.getElem?_modify]
        by_cases hi : j = i
        · subst hi; rw [if_pos rfl, if_pos rfl, hx']; simp [← hxk]
        · rw [if_neg hi, if_neg hi]
      · intro p hp
        simp only [kvSet, hg, Option.isSome_some, if_true] at hp
        obtain ⟨q, hq, rfl⟩ := List.mem_map.1 hp
        split
        · exact hk
        · exact hok q hq

/-! ### a range over a map under way -/
/-- block b is the map kv, block r an iterator over it; rem: what is still to come. -/
def RangeK (w : World) (ek : κ → Value) (ok : κ → Prop) (b r : Nat) (kv rem : List (κ × Value)) : Prop :=
  ∃ es clock since seen c0, w.heap[b]? = some (.map es clock) ∧ Stamped es clock ∧ es.toList.map (fun e => (e.key, e.val)) = kv.map (fun p => (ek p.1, p.2)) ∧ (∀ p ∈ kv, ok p.1) ∧
    w.heap[r]? = some (.mapIter (some b) since seen c0) ∧ (∀ x ∈ es.toList, x.born < since) ∧ since ≤ c0 ∧ since ≤ clock ∧
    (leftOf es seen).toList.map (fun e => (e.key, e.val)) = rem.map (fun p => (ek p.1, p.2)) ∧ ∀ p ∈ rem, p ∈ kv

theorem RangeK.keep {S : Nat → Prop} {r : Nat} {rem : List (κ × Value)} (h : RangeK w ek ok b r kv rem) (ho : Only S w w') (hb : ¬ S b) (hr : ¬ S r) : RangeK w' ek ok b r kv rem := by
  obtain ⟨es, clock, since, seen, c0, h1, h2, h3, h4, h5, rest⟩ := h
  exact ⟨es, clock, since, seen, c0, ho.obj h1 hb, h2, h3, h4, ho.obj h5 hr, rest⟩
theorem RangeK.map {r : Nat} {rem : List (κ × Value)} (h : RangeK w ek ok b r kv rem) : MapK w ek ok b kv := by
  obtain ⟨es, clock, since, seen, c0, h1, h2, h3, h4, _⟩ := h
  exact ⟨es, clock, h1, h2, h3, h4⟩
theorem RangeK.lt {r : Nat} {rem : List (κ × Value)} (h : RangeK w ek ok b r kv rem) : r < w.heap.size := by
  obtain ⟨es, clock, since, seen, c0, h1, h2, h3, h4, h5, _⟩ := h
  exact (Array.getElem?_eq_some_iff.1 h5).1
theorem RangeK.sub {r : Nat} {rem : List (κ × Value)} (h : RangeK w ek ok b r kv rem) : ∀ p ∈ rem, p ∈ kv := by
  obtain ⟨es, clock, since, seen, c0, h1, h2, h3, h4, h5, h6, h7, h8, h9, h10⟩ := h
  exact h10
theorem RangeK.ne {r : Nat} {rem : List (κ × Value)} (h : RangeK w ek ok b r kv rem) : r ≠ b := by
  obtain ⟨es, clock, since, seen, c0, h1, h2, h3, h4, h5, _⟩ := h
  rintro rfl
  rw [h1] at h5
  cases h5

theorem run_range_kv {P : Program} {t kt e : TypeId} (ht : P.underlying t = some (.map kt e)) (h : MapK w ek ok b kv) :
    (Instr.range t (.map (some b))).run P w = .ok (.pointer (some ⟨w.heap.size, 0, none⟩)) (w.alloc (.mapIter (some b) ((w.heap[b]?.map fun | .map _ c => c | _ => 0).getD 0) #[] ((w.heap[b]?.map fun | .map _ c => c | _ => 0).getD 0))) ∧
    RangeK (w.alloc (.mapIter (some b) ((w.heap[b]?.map fun | .map _ c => c | _ => 0).getD 0) #[] ((w.heap[b]?.map fun | .map _ c => c | _ => 0).getD 0))) ek ok b w.heap.size kv kv := by
  have hlt := h.lt
  obtain ⟨es, clock, hb, hs, hkv, hok⟩ := h
  have hc : ((w.heap[b]?.map fun | .map _ c => c | _ => 0).getD 0) = clock := by rw [hb]; rfl
  rw [hc]
  refine ⟨run_range_map w t kt e b es clock ht hb, es, clock, clock, #[], clock, ((MapKept.heap_alloc w _).2 b hlt).trans hb, hs, hkv, hok, (MapKept.heap_alloc w _).1, hs.1, Nat.le_refl _, Nat.le_refl _, ?_, fun p hp => hp⟩
  rw [← hkv]
  have : (leftOf es #[]).toList = es.toList := by unfold leftOf; rw [Array.toList_filter, List.filter_eq_self]; intro x _; simp
  rw [this]

theorem run_next_kv [DecidableEq κ] {P : Program} {kt : TypeId} (K : Keying P kt ek ok) {r : Nat} {rem : List (κ × Value)} (h : RangeK w ek ok b r kv rem) (ty : TypeId) :
    (rem = [] ∧ (Instr.next (.pointer (some ⟨r, 0, none⟩)) false ty).run P w = .ok (.tuple #[.bool false]) w) ∨
    ∃ p w', p ∈ rem ∧ (Instr.next (.pointer (some ⟨r, 0, none⟩)) false ty).run P w = .ok (.tuple #[.bool true, ek p.1, p.2]) w' ∧ RangeK w' ek ok b r kv (kvDel rem p.1) ∧ Only (fun k => k = r) w w' ∧ w'.heap.size = w.heap.size ∧
      (Instr.entry (.pointer (some ⟨r, 0, none⟩))).run P w' = .ok (.tuple #[ek p.1, p.2]) w' := by
  have hne := h.ne
  obtain ⟨es, clock, since, seen, c0, hb, hs, hkv, hok, hr, hold, hsc, hsk, hrem, hsub⟩ := h
  have hnd := keys_nodup K hs hkv hok
  rcases run_next_at (P := P) w ty r b since c0 seen es clock hr hb hold hsc with ⟨h0, hrun⟩ | ⟨e, he, w1, hal, hrun⟩
  · refine .inl ⟨?_, hrun⟩
    have := congrArg List.length hrem
    simp [h0] at this
    exact List.eq_nil_of_length_eq_zero this.symm
  · obtain ⟨hem, hes⟩ := mem_left he
    have hmem : (e.key, e.val) ∈ rem.map (fun p => (ek p.1, p.2)) := by rw [← hrem]; exact List.mem_map.2 ⟨e, he, rfl⟩
    obtain ⟨p, hp, hpe⟩ := List.mem_map.1 hmem
    simp only [Prod.mk.injEq] at hpe
    have hr1 : w1.heap[r]? = some (.mapIter (some b) since seen c0) := by rcases hal with rfl | rfl <;> exact hr
    have hb1 : w1.heap[b]? = some (.map es clock) := by rcases hal with rfl | rfl <;> exact hb
    have hset := heap_set (o' := .mapIter (some b) since (seen.push e.born) clock) hr1
    have hb' : (setBlock w1 r (.mapIter (some b) since (seen.push e.born) clock)).heap[b]? = some (.map es clock) := (hset.2 b (fun e1 => hne e1.symm)).trans hb1
    refine .inr ⟨p, _, hp, by rw [hpe.1, hpe.2]; exact hrun, ⟨es, clock, since, seen.push e.born, clock, hb', hs, hkv, hok, hset.1, hold, hsk, hsk, ?_, ?_⟩, ?_, ?_, ?_⟩
    · -- what is left
      have hst := (stamped_iff es clock).1 hs
      classical
      have e1 : (leftOf es (seen.push e.born)).toList = (leftOf es seen).toList.filter fun x => x.born != e.born := by
        unfold leftOf
        simp only [Array.toList_filter, List.filter_filter]
        apply List.filter_congr
        intro x _
        rw [contains_push]
        cases seen.contains x.born <;> cases hbe : (x.born == e.born) <;> simp_all
      rw [e1]
      have hkey : ∀ x ∈ (leftOf es seen).toList, (x.born != e.born) = decide (x.key ≠ e.key) := by
        intro x hx
        have hxm := (mem_left hx).1
        by_cases hbe : x.born = e.born
        · have := born_inj hst.2.1 hxm hem hbe
          subst this
          simp
        · have hk : x.key ≠ e.key := fun hk => hbe (by rw [entry_eq_of_key hst.2.2 hxm hem hk])
          simp [hbe, hk]
      rw [List.filter_congr hkey]
      -- the same strike on both lists
      have gen : ∀ (xs : List MapEntry) (ys : List (κ × Value)), xs.map (fun e => (e.key, e.val)) = ys.map (fun p => (ek p.1, p.2)) → (∀ q ∈ ys, ok q.1) → ok p.1 →
          (xs.filter fun x => decide (x.key ≠ e.key)).map (fun e => (e.key, e.val)) = (kvDel ys p.1).map (fun p => (ek p.1, p.2)) := by
        intro xs
        induction xs with
        | nil => intro ys hy _ _; cases ys with
          | nil => rfl
          | cons _ _ => simp at hy
        | cons x xs ih =>
          intro ys hy hoy hop
          cases ys with
          | nil => simp at hy
          | cons q ys =>
            simp only [List.map_cons, List.cons.injEq, Prod.mk.injEq] at hy
            have ih' := ih ys hy.2 (fun q hq => hoy q (by simp [hq])) hop
            unfold kvDel at ih' ⊢
            by_cases hx : x.key = e.key
            · have hq : q.1 = p.1 := K.inj _ _ (hoy q (by simp)) hop (by rw [← hy.1.1, hx, hpe.1])
              rw [List.filter_cons, if_neg (by simp [hx]), List.filter_cons, if_neg (by simp [hq])]
              exact ih'
            · have hq : q.1 ≠ p.1 := fun hq => hx (by rw [hy.1.1, hq, hpe.1])
              rw [List.filter_cons, if_pos (by simp [hx]), List.filter_cons, if_pos (by simp [hq])]
              simp only [List.map_cons, hy.1.1, hy.1.2]
              rw [ih']
      exact gen _ _ hrem (fun q hq => hok q (hsub q hq)) (hok p (hsub p hp))
    · intro q hq
      exact hsub q (List.mem_filter.1 hq).1
    · rcases hal with rfl | rfl <;> exact ⟨rfl, rfl, rfl, by simp [setBlock], fun i _ hi => hset.2 i hi⟩
    · rcases hal with rfl | rfl <;> simp [setBlock]
    · have := run_entry_at (P := P) _ r b since seen es clock e hset.1 hb' hem hs.2.1
      rw [hpe.1, hpe.2]
      exact this
end
end Go.GwYtckgjiiogmcbmaa
