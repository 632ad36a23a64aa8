/-
  A region that draws its order, walked once in the order of the text: every operation either yields one value in every world of a class C, or stands in a chain of operations that wait for one another. No condition.
-/
import Derived.Test.YtckgjiiogmcbmaaArms
import Derived.OrdersHeld
namespace Go.GwYtckgjiiogmcbmaa
open Go.RowKit

/-- the exits of such a walk: it goes on, and nothing else. -/
def OnlyOn (R : Act → World → Prop) : Exit → Act → World → Prop := fun e a w => e = .normal ∧ R a w

theorem onlyOn_lets {R : Act → World → Prop} : ¬ LetsOut (OnlyOn R) := by
  rintro ⟨a, w, h, _⟩
  cases h

section
variable {P : Program} {z : Bool} {ops : Array Oper} {C : World → Prop} {R : Act → World → Prop}

/-- the last of all, where z says that it waits for all others: behind it nothing is asked of the world. -/
def lastOf (z : Bool) (ops : Array Oper) (i : Nat) : Bool := z && (i + 1 == ops.size)

/-- the walk in the order of the text; E: the places of the operations that may turn the world. -/
def wpLexI (P : Program) (z : Bool) (ops : Array Oper) (C : World → Prop) (R : Act → World → Prop) (E : List Nat) : List Nat → Act → World → Prop
  | [], a, w => R a w
  | i :: rest, a, w =>
    if E.contains i then wpOp P ops (OnlyOn R) i (fun a' w' => (lastOf z ops i = true ∨ C w') ∧ wpLexI P z ops C R E rest a' w') a w
    else ∃ o v, ops[i]? = some o ∧ YieldsIf P ops C o v a ∧ wpLexI P z ops C R E rest (a.put o.dst v) w

/-- whom an operation waits for, directly or through others: a bit a place; rows: the same of those ahead of it. -/
def maskOf (rows : List Nat) (o : Oper) : Nat := o.after.toList.foldl (fun acc e => if Region.binds .any e then acc ||| (1 <<< e.on) ||| rows.getD e.on 0 else acc) 0
def maskRows : List Oper → List Nat → List Nat
  | [], rows => rows
  | o :: l, rows => maskRows l (rows ++ [maskOf rows o])

def lexPair (ops : Array Oper) (E : List Nat) (mask j i : Nat) : Bool :=
  match ops[j]?, ops[i]? with
  | some oj, some oi => mask.testBit j || (oi.apart ops oj && oj.apart ops oi && !(E.contains i && E.contains j))
  | _, _ => false

def lexOK (ops : Array Oper) (E : List Nat) : Bool :=
  Region.noSelect ops && (List.range ops.size).all fun i =>
    (match ops[i]? with
     | some o => o.after.all fun e => !Region.binds .any e || decide (e.on < i)
     | none => false) && (List.range i).all fun j => lexPair ops E ((maskRows ops.toList []).getD i 0) j i

theorem lexOK_sel {E : List Nat} (h : lexOK ops E = true) (j : Nat) (o : Oper) (cs : Array SelectCase) (b : Bool) (hj : ops[j]? = some o) : o.op ≠ .select cs b :=
  Region.noSelect_spec (Bool.and_eq_true_iff.1 h).1 j o cs b hj
theorem lexOK_at {E : List Nat} (h : lexOK ops E = true) {i : Nat} {o : Oper} (hi : ops[i]? = some o) :
    (∀ e ∈ o.after, Region.binds .any e = true → e.on < i) ∧ ∀ j, j < i → lexPair ops E ((maskRows ops.toList []).getD i 0) j i = true := by
  have h2 := (Bool.and_eq_true_iff.1 h).2
  have hlt : i < ops.size := (Array.getElem?_eq_some_iff.1 hi).1
  have h3 := List.all_eq_true.1 h2 i (List.mem_range.2 hlt)
  rw [hi] at h3
  obtain ⟨h4, h5⟩ := Bool.and_eq_true_iff.1 h3
  refine ⟨fun e he hb => ?_, fun j hj => List.all_eq_true.1 h5 j (List.mem_range.2 hj)⟩
  have := Array.all_eq_true_iff_forall_mem.1 h4 e he
  simpa [hb] using this

/-- a set of places that bears, with each, all that it waits for. -/
def Closed (ops : Array Oper) (listed : Array Bool) : Prop := ∀ (k : Nat) (o : Oper), ops[k]? = some o → listed.getD k false = true → ∀ e ∈ o.after, Region.binds .any e = true → listed.getD e.on false = true

theorem maskOf_listed {listed : Array Bool} {rows : List Nat} {o : Oper} (hr : ∀ k j, listed.getD k false = true → (rows.getD k 0).testBit j = true → listed.getD j false = true)
    (ho : ∀ e ∈ o.after, Region.binds .any e = true → listed.getD e.on false = true) (j : Nat) (hj : (maskOf rows o).testBit j = true) : listed.getD j false = true := by
  have gen : ∀ (l : List Edge) (acc : Nat), (∀ e ∈ l, Region.binds .any e = true → listed.getD e.on false = true) → (acc.testBit j = true → listed.getD j false = true) →
      (l.foldl (fun acc e => if Region.binds .any e then acc ||| (1 <<< e.on) ||| rows.getD e.on 0 else acc) acc).testBit j = true → listed.getD j false = true := by
    intro l
    induction l with
    | nil => intro acc _ hacc h; exact hacc h
    | cons e l ih =>
      intro acc hl hacc h
      simp only [List.foldl_cons] at h
      refine ih _ (fun e' he' => hl e' (by simp [he'])) ?_ h
      intro h2
      split at h2
      · rename_i hb
        rw [Nat.testBit_or, Nat.testBit_or, Bool.or_eq_true, Bool.or_eq_true] at h2
        rcases h2 with (h2 | h2) | h2
        · exact hacc h2
        · rw [Nat.one_shiftLeft, Nat.testBit_two_pow] at h2
          have : e.on = j := by simpa using h2
          rw [← this]
          exact hl e (by simp) hb
        · exact hr e.on j (hl e (by simp) hb) h2
      · exact hacc h2
  exact gen o.after.toList 0 (fun e he => ho e (Array.mem_toList_iff.1 he)) (by simp) hj

theorem maskRows_spec {listed : Array Bool} (hc : Closed ops listed) : ∀ (l : List Oper) (rows : List Nat) (hl : ∀ j, l[j]? = ops[rows.length + j]?),
    (∀ k j, listed.getD k false = true → (rows.getD k 0).testBit j = true → listed.getD j false = true) →
    (∀ k o, ops[k]? = some o → k < rows.length → ∀ j, (∀ e ∈ o.after, Region.binds .any e = true → listed.getD e.on false = true) → (rows.getD k 0).testBit j = true → listed.getD j false = true) →
    ∀ k o, ops[k]? = some o → ∀ j, (∀ e ∈ o.after, Region.binds .any e = true → listed.getD e.on false = true) → ((maskRows l rows).getD k 0).testBit j = true → listed.getD j false = true := by
  intro l
  induction l with
  | nil =>
    intro rows hl h1 h2 k o hk j hp h
    by_cases hlt : k < rows.length
    · exact h2 k o hk hlt j hp h
    · simp only [maskRows] at h
      rw [List.getD_eq_getElem?_getD, List.getElem?_eq_none (by omega)] at h
      simp at h
  | cons o' l ih =>
    intro rows hl h1 h2 k o hk j hp h
    have h0 : ops[rows.length]? = some o' := by simpa using (hl 0).symm
    simp only [maskRows] at h
    have getD_snoc : ∀ k, (rows ++ [maskOf rows o']).getD k 0 = if k < rows.length then rows.getD k 0 else if k = rows.length then maskOf rows o' else 0 := by
      intro k
      simp only [List.getD_eq_getElem?_getD, List.getElem?_append]
      by_cases h1 : k < rows.length
      · simp [h1]
      · by_cases h2 : k = rows.length
        · subst h2; simp
        · rw [if_neg h1, if_neg h1, if_neg h2, List.getElem?_eq_none (by simp; omega)]; rfl
    refine ih (rows ++ [maskOf rows o']) (fun j => by have := hl (j + 1); simpa [Nat.add_assoc, Nat.add_comm 1 j] using this) ?_ ?_ k o hk j hp h
    · intro k j hk hb
      rw [getD_snoc] at hb
      split at hb
      · exact h1 k j hk hb
      · split at hb
        · rename_i _ e
          subst e
          exact maskOf_listed h1 (hc _ _ h0 hk) j hb
        · simp at hb
    · intro k o hk hlt j hp hb
      rw [getD_snoc] at hb
      split at hb
      · rename_i hlt2
        exact h2 k o hk hlt2 j hp hb
      · split at hb
        · rename_i _ e
          subst e
          rw [h0] at hk
          cases hk
          exact maskOf_listed h1 hp j hb
        · simp at hb

theorem yields_one {o : Oper} {v u : Value} {a : Act} {w : World} (hw : C w) (h : YieldsIf P ops C o v a) (k : YieldsIf P ops C o u a) : v = u := by
  rcases h with ⟨h1, h2⟩ | ⟨h1, rfl⟩ <;> rcases k with ⟨k1, k2⟩ | ⟨k1, rfl⟩
  · have := (h2 w hw).symm.trans (k2 w hw)
    simpa using this
  · rw [h1] at k1; cases k1
  · rw [h1] at k1; cases k1
  · rfl

/-- an operation that goes on goes on somewhere, in a frame that parts from the old one in its own slot alone. -/
theorem wpOp_some {i : Nat} {o : Oper} (hi : ops[i]? = some o) {K : Act → World → Prop} {a : Act} {w : World} (h : wpOp P ops (OnlyOn R) i K a w) :
    ∃ a' w', K a' w' ∧ ∃ (u : Value) (ds : List Deferred), a' = ({ a with defers := ds } : Act).put o.dst u := by
  unfold wpOp at h
  simp only [hi] at h
  split at h
  · rcases h with h | ⟨_, h⟩
    · unfold Oper.wp at h
      generalize (execOp a.eval o).run P w = r at h
      cases r with
      | ok n w' =>
        cases n <;> simp only [Oper.upon] at h
        case value u => exact ⟨_, _, h, u, a.defers, rfl⟩
        case skip => exact ⟨_, _, h, undef, a.defers, rfl⟩
        case defer d => exact ⟨_, _, h, undef, _, rfl⟩
        case enter f args =>
          obtain ⟨e, w'', fr, hR, _⟩ := h []
          cases e with
          | returned u => exact ⟨_, _, hR, u, a.defers, rfl⟩
          | panicked c => exact absurd hR.1 (by simp)
          | outgrown => exact absurd hR onlyOn_lets
        case row row args =>
          obtain ⟨u, w'', hR, _⟩ := h default []
          exact ⟨_, _, hR, u, a.defers, rfl⟩
      | halt x w' =>
        cases x <;> simp only [Oper.upon] at h
        case panic u => exact absurd h.1 (by simp)
    · exact absurd h onlyOn_lets
  · exact ⟨_, _, h, undef, a.defers, rfl⟩

theorem yields_back {oi oj : Oper} {v u : Value} {a : Act} {ds : List Deferred} (hap : oj.apart ops oi = true) (hsi : ∀ cs b, oi.op ≠ .select cs b)
    (h : YieldsIf P ops C oi v (({ a with defers := ds } : Act).put oj.dst u)) : YieldsIf P ops C oi v a := by
  obtain ⟨h1, h2, h3⟩ := Oper.apart_spec hap
  have e1 := execOp_put oi hsi ({ a with defers := ds } : Act) oj.dst u h1
  have e2 := wanted_put oi ({ a with defers := ds } : Act) oj.dst u h1
  exact h.of_same e1.symm e2.symm

/-- an operation oj, apart from oi: it may as well come behind oi. -/
theorem wpOp_behind {j : Nat} {oi oj : Oper} {v : Value} (hj : ops[j]? = some oj) (hap : oi.apart ops oj = true)
    (hsj : ∀ cs b, oj.op ≠ .select cs b) {K : Act → World → Prop} {a : Act} {w : World}
    (h : wpOp P ops (OnlyOn R) j (fun a' w' => K (a'.put oi.dst v) w') a w) : wpOp P ops (OnlyOn R) j K (a.put oi.dst v) w := by
  obtain ⟨h1, h2, h3⟩ := Oper.apart_spec hap
  unfold wpOp at *
  simp only [hj] at *
  rw [wanted_put oj a oi.dst v h1]
  split
  · rename_i hw
    simp only [hw, if_true] at h
    rcases h with h | ⟨_, hlets⟩
    case inr => exact absurd hlets onlyOn_lets
    refine .inl ?_
    unfold Oper.wp at *
    rw [execOp_put oj hsj a oi.dst v h1]
    generalize (execOp a.eval oj).run P w = r at *
    cases r with
    | ok n w' =>
      cases n <;> simp only [Oper.upon] at h ⊢
      case value u => rw [Act.put_comm a v u h2]; exact h
      case skip => rw [Act.put_comm a v undef h2]; exact h
      case defer d =>
        rw [Act.put_defers, Act.put_comm _ v undef h2]
        exact h
      case enter f args =>
        refine Calls.mono h fun e w'' he => ?_
        cases e with
        | returned u => show K _ _; rw [Act.put_comm a v u h2]; exact he
        | panicked c => exact absurd he.1 (by simp)
        | outgrown => exact he
      case row row args => exact Rows.mono h fun u w'' he => by show K _ _; rw [Act.put_comm a v u h2]; exact he
    | halt x w' =>
      cases x <;> simp only [Oper.upon] at h ⊢
      case panic u => exact absurd h.1 (by simp)
  · rename_i hw
    simp only [hw] at h
    rw [Act.put_comm a v undef h2]
    exact h

/-- an operation of the first kind may be taken first. -/
theorem lex_pull {E : List Nat} {i : Nat} {oi : Oper} (hi : ops[i]? = some oi) (hE : E.contains i = false)
    (hsel : ∀ (j : Nat) (o : Oper) cs b, ops[j]? = some o → o.op ≠ .select cs b) : ∀ (L1 L2 : List Nat) (a : Act) (w : World),
    (∀ j ∈ L1, lastOf z ops j = false ∧ ∃ oj, ops[j]? = some oj ∧ oi.apart ops oj = true ∧ oj.apart ops oi = true) → C w → wpLexI P z ops C R E (L1 ++ i :: L2) a w →
    ∃ v, YieldsIf P ops C oi v a ∧ wpLexI P z ops C R E (L1 ++ L2) (a.put oi.dst v) w := by
  intro L1
  induction L1 with
  | nil =>
    intro L2 a w _ _ h
    simp only [List.nil_append, wpLexI, hE, Bool.false_eq_true, if_false, hi, Option.some.injEq] at h
    obtain ⟨o, v, rfl, hy, hr⟩ := h
    exact ⟨v, hy, hr⟩
  | cons j L1 ih =>
    intro L2 a w hL hC h
    obtain ⟨hnl, oj, hj, hap1, hap2⟩ := hL j (by simp)
    simp only [List.cons_append, wpLexI] at h ⊢
    by_cases hEj : E.contains j = true
    · simp only [hEj, if_true] at h ⊢
      have h2 := wpOp_mono (fun a' w' (hh : (lastOf z ops j = true ∨ C w') ∧ _) => And.intro (hh.1.resolve_left (by rw [hnl]; exact Bool.false_ne_true)) (ih L2 a' w' (fun k hk => hL k (by simp [hk])) (hh.1.resolve_left (by rw [hnl]; exact Bool.false_ne_true)) hh.2)) h
      obtain ⟨a', w', ⟨hC', v, hy, _⟩, u, ds, rfl⟩ := wpOp_some hj h2
      have hy0 := yields_back hap2 (hsel i oi · · hi) hy
      refine ⟨v, hy0, wpOp_behind hj hap1 (hsel j oj · · hj) ?_⟩
      -- every outcome has this value
      have hyk : wpOp P ops (OnlyOn R) j (fun a' w' => YieldsIf P ops C oi v a' ∧ (C w' ∧ ∃ v, YieldsIf P ops C oi v a' ∧ wpLexI P z ops C R E (L1 ++ L2) (a'.put oi.dst v) w')) a w := by
        obtain ⟨q1, q2, q3⟩ := Oper.apart_spec hap1
        have keep : ∀ (a : Act), YieldsIf P ops C oi v a → ∀ u, YieldsIf P ops C oi v (a.put oj.dst u) := fun a hy u =>
          hy.of_same (execOp_put oi (hsel i oi · · hi) a oj.dst u q3) (wanted_put oi a oj.dst u q3)
        unfold wpOp at h2 ⊢
        simp only [hj] at h2 ⊢
        split
        · rename_i hw
          simp only [hw, if_true] at h2
          rcases h2 with h2 | ⟨_, hl⟩
          case inr => exact absurd hl onlyOn_lets
          refine .inl ?_
          unfold Oper.wp at *
          generalize (execOp a.eval oj).run P w = r at *
          cases r with
          | ok n w' =>
            cases n <;> simp only [Oper.upon] at h2 ⊢
            case value u => exact ⟨keep a hy0 u, h2⟩
            case skip => exact ⟨keep a hy0 _, h2⟩
            case defer d => exact ⟨keep _ (hy0.of_same (a' := { a with defers := d :: a.defers }) rfl rfl) _, h2⟩
            case enter f args =>
              refine Calls.mono h2 fun e w'' he => ?_
              cases e with
              | returned u => exact ⟨keep a hy0 u, he⟩
              | panicked c => exact he
              | outgrown => exact he
            case row row args => exact Rows.mono h2 fun u w'' he => ⟨keep a hy0 u, he⟩
          | halt x w' => cases x <;> simp only [Oper.upon] at h2 ⊢ <;> exact h2
        · rename_i hw
          simp only [hw] at h2
          exact ⟨keep a hy0 _, h2⟩
      refine wpOp_mono (fun a' w' hh => ?_) hyk
      obtain ⟨hya, hC', v', hyv, hl⟩ := hh
      have := yields_one hC' hya hyv
      subst this
      exact ⟨.inr hC', hl⟩
    · simp only [Bool.not_eq_true] at hEj
      simp only [hEj, Bool.false_eq_true, if_false] at h ⊢
      obtain ⟨o, vj, ho, hyj, hr⟩ := h
      rw [hj] at ho
      cases ho
      obtain ⟨v, hy, hr2⟩ := ih L2 _ w (fun k hk => hL k (by simp [hk])) hC hr
      obtain ⟨q1, q2, q3⟩ := Oper.apart_spec hap1
      have hy0 : YieldsIf P ops C oi v a := hy.of_same (execOp_put oi (hsel i oi · · hi) a oj.dst vj q3).symm (wanted_put oi a oj.dst vj q3).symm
      refine ⟨v, hy0, oj, vj, hj, hyj.of_same (execOp_put oj (hsel j oj · · hj) a oi.dst v q1) (wanted_put oj a oi.dst v q1), ?_⟩
      rw [Act.put_comm a v vj q2]
      exact hr2

/-- an operation of the second kind may be taken first, ahead of operations of the first. -/
theorem lex_pullE {E : List Nat} {i : Nat} {oi : Oper} (hi : ops[i]? = some oi) (hE : E.contains i = true)
    (hsel : ∀ (j : Nat) (o : Oper) cs b, ops[j]? = some o → o.op ≠ .select cs b) : ∀ (L1 L2 : List Nat) (a : Act) (w : World),
    (lastOf z ops i = true → L1 = []) → (∀ j ∈ L1, E.contains j = false ∧ ∃ oj, ops[j]? = some oj ∧ oj.apart ops oi = true) → wpLexI P z ops C R E (L1 ++ i :: L2) a w →
    wpOp P ops (OnlyOn R) i (fun a' w' => (lastOf z ops i = true ∨ C w') ∧ wpLexI P z ops C R E (L1 ++ L2) a' w') a w := by
  intro L1
  induction L1 with
  | nil =>
    intro L2 a w _ _ h
    simp only [List.nil_append, wpLexI, hE, if_true] at h
    exact h
  | cons j L1 ih =>
    intro L2 a w hla hL h
    have hnl : lastOf z ops i = false := by
      cases hl : lastOf z ops i with
      | false => rfl
      | true => exact absurd (hla hl) (by simp)
    obtain ⟨hEj, oj, hj, hap⟩ := hL j (by simp)
    simp only [List.cons_append, wpLexI, hEj, Bool.false_eq_true, if_false] at h ⊢
    obtain ⟨o, vj, ho, hyj, hr⟩ := h
    rw [hj] at ho
    cases ho
    have h2 := ih L2 _ w (fun hl => by rw [hnl] at hl; cases hl) (fun k hk => hL k (by simp [hk])) hr
    refine wpOp_mono (fun a' w' hh => ?_) (wpOp_putIf hi hap (hsel j oj · · hj) (hsel i oi · · hi) (fun c a w hq => absurd hq.1 (by simp)) hyj h2)
    exact ⟨hh.2.1, oj, vj, hj, hh.1, hh.2.2⟩

/-- the last operation waits for all others. -/
def lexLast (ops : Array Oper) : Bool := (List.range (ops.size - 1)).all fun j => ((maskRows ops.toList []).getD (ops.size - 1) 0).testBit j

theorem wpAny_of_lex {E : List Nat} (hok : lexOK ops E = true) (hz : z = true → lexLast ops = true) : ∀ (L : List Nat) (listed : Array Bool) (a : Act) (w : World), listed.size = ops.size → Closed ops listed → L.Pairwise (· < ·) → (∀ i, i ∈ L ↔ i < ops.size ∧ listed.getD i false = false) → (L = [] ∨ C w) →
    wpLexI P z ops C R E L a w → wpAny P .any ops (OnlyOn R) L.length listed a w := by
  intro L
  generalize hn : L.length = n
  induction n generalizing L with
  | zero =>
    intro listed a w hsz hcl hs hL hC h
    have : L = [] := List.eq_nil_of_length_eq_zero hn
    subst this
    refine ⟨?_, rfl, h⟩
    rw [List.eq_nil_iff_forall_not_mem]
    intro i hi
    obtain ⟨h0, o, ho, _⟩ := mem_ready.1 hi
    have hlt := (Array.getElem?_eq_some_iff.1 ho).1
    have : i ∈ ([] : List Nat) := (hL i).2 ⟨hlt, by
      have : i < listed.size := by omega
      simp [Array.getD, this] at h0 ⊢
      exact h0⟩
    cases this
  | succ n ih =>
    intro listed a w hsz hcl hs hL hC h
    have unl : ∀ {i}, i < ops.size → (listed.getD i true = false ↔ listed.getD i false = false) := fun {i} hi => by
      have : i < listed.size := by omega
      simp [Array.getD, this]
    refine ⟨fun hr => ?_, fun i hi => ?_⟩
    · -- the least one that is not listed may come up
      cases L with
      | nil => simp at hn
      | cons i L =>
        obtain ⟨hlt, h0⟩ := (hL i).1 (by simp)
        have ho : ops[i]? = some ops[i] := Array.getElem?_eq_getElem hlt
        have : i ∈ Region.ready .any ops listed := mem_ready.2 ⟨(unl hlt).2 h0, _, ho, fun e he hb => by
          have hle := (lexOK_at hok ho).1 e he hb
          cases hd : listed.getD e.on false with
          | true => rfl
          | false =>
            have : e.on ∈ i :: L := (hL e.on).2 ⟨by omega, hd⟩
            rcases List.mem_cons.1 this with e1 | e1
            · omega
            · have := (List.pairwise_cons.1 hs).1 _ e1
              omega⟩
        rw [hr] at this
        cases this
    · obtain ⟨h0, oi, ho, hpred⟩ := mem_ready.1 hi
      have hlt := (Array.getElem?_eq_some_iff.1 ho).1
      have hmem : i ∈ L := (hL i).2 ⟨hlt, (unl hlt).1 h0⟩
      obtain ⟨L1, L2, rfl⟩ := List.append_of_mem hmem
      have hs' := List.pairwise_append.1 hs
      have hbefore : ∀ j ∈ L1, j < i ∧ ∃ oj, ops[j]? = some oj ∧ oi.apart ops oj = true ∧ oj.apart ops oi = true ∧ (E.contains i && E.contains j) = false := by
        intro j hj
        have hji : j < i := hs'.2.2 j hj i (by simp)
        obtain ⟨hjl, hj0⟩ := (hL j).1 (by simp [hj])
        have hoj : ops[j]? = some ops[j] := Array.getElem?_eq_getElem hjl
        have hp := (lexOK_at hok ho).2 j hji
        unfold lexPair at hp
        rw [hoj, ho] at hp
        simp only [Bool.or_eq_true, Bool.and_eq_true, Bool.not_eq_true'] at hp
        rcases hp with hp | ⟨⟨hp1, hp2⟩, hp3⟩
        · have := maskRows_spec hcl ops.toList [] (fun j => by simp) (fun k j _ hb => by simp at hb) (fun k o _ hlt => by simp at hlt) i oi ho j hpred hp
          rw [this] at hj0
          cases hj0
        · exact ⟨hji, _, hoj, hp1, hp2, hp3⟩
      have hlen : (L1 ++ L2).length = n := by simp at hn ⊢; omega
      have hs2 : (L1 ++ L2).Pairwise (· < ·) := List.pairwise_append.2 ⟨hs'.1, (List.pairwise_cons.1 hs'.2.1).2, fun x hx y hy => hs'.2.2 x hx y (by simp [hy])⟩
      have hnot : i ∉ L1 ∧ i ∉ L2 := ⟨fun hm => by have := (hbefore i hm).1; omega, fun hm => by have := (List.pairwise_cons.1 hs'.2.1).1 i hm; omega⟩
      have hL2 : ∀ k, k ∈ L1 ++ L2 ↔ k < ops.size ∧ (listed.setIfInBounds i true).getD k false = false := by
        intro k
        by_cases hki : k = i
        · subst hki
          have hls : k < listed.size := by omega
          simp [hnot.1, hnot.2, Array.getD, hls]
        · rw [getD_set_ne false (fun e => hki e.symm)]
          have := hL k
          simp only [List.mem_append, List.mem_cons] at this ⊢
          rw [← this]
          constructor
          · rintro (h | h)
            · exact .inl h
            · exact .inr (.inr h)
          · rintro (h | h | h)
            · exact .inl h
            · exact absurd h hki
            · exact .inr h
      have hsz2 : (listed.setIfInBounds i true).size = ops.size := by simp [hsz]
      have hcl2 : Closed ops (listed.setIfInBounds i true) := by
        intro k o hk hkl e he hb
        by_cases hki : k = i
        · subst hki
          rw [ho] at hk
          cases hk
          exact getD_set_true (hpred e he hb)
        · rw [getD_set_ne false (fun e => hki e.symm)] at hkl
          exact getD_set_true (hcl k o hk hkl e he hb)
      have hC := hC.resolve_left (by simp)
      have hla : lastOf z ops i = true → L1 = [] ∧ L2 = [] := by
        intro hl
        unfold lastOf at hl
        simp only [Bool.and_eq_true, beq_iff_eq] at hl
        refine ⟨List.eq_nil_iff_forall_not_mem.2 fun j hj => ?_, List.eq_nil_iff_forall_not_mem.2 fun j hj => ?_⟩
        · have hji := (hbefore j hj).1
          have hm := List.all_eq_true.1 (hz hl.1) j (List.mem_range.2 (by omega))
          rw [show ops.size - 1 = i by omega] at hm
          have := maskRows_spec hcl ops.toList [] (fun j => by simp) (fun k j _ hb => by simp at hb) (fun k o _ hlt => by simp at hlt) i oi ho j hpred hm
          have hj0 := ((hL j).1 (by simp [hj])).2
          rw [this] at hj0
          cases hj0
        · have h1 := (List.pairwise_cons.1 hs'.2.1).1 j hj
          have h2 := ((hL j).1 (by simp [hj])).1
          omega
      by_cases hE : E.contains i = true
      · refine wpOp_mono (fun a' w' hh => ih (L1 ++ L2) hlen _ a' w' hsz2 hcl2 hs2 hL2 (hh.1.imp (fun hl => by rw [(hla hl).1, (hla hl).2]; rfl) fun h => h) hh.2) (lex_pullE ho hE (lexOK_sel hok) L1 L2 a w (fun hl => (hla hl).1) (fun j hj => ?_) h)
        obtain ⟨_, oj, hoj, _, h2, h3⟩ := hbefore j hj
        exact ⟨by rw [hE, Bool.true_and] at h3; exact h3, oj, hoj, h2⟩
      · simp only [Bool.not_eq_true] at hE
        obtain ⟨v, hy, hr⟩ := lex_pull ho hE (lexOK_sel hok) L1 L2 a w (fun j hj => by
          obtain ⟨hji, oj, hoj, h1, h2, _⟩ := hbefore j hj
          exact ⟨by
            unfold lastOf
            rw [show (j + 1 == ops.size) = false by simp; omega, Bool.and_false], oj, hoj, h1, h2⟩) hC h
        exact hy.wpOp ho hC (ih (L1 ++ L2) hlen _ _ w hsz2 hcl2 hs2 hL2 (.inr hC) hr)

/-- the walk in the order of the text, over the operations themselves. -/
def wpLex (P : Program) (z : Bool) (ops : Array Oper) (C : World → Prop) (R : Act → World → Prop) : List (Oper × Bool) → Act → World → Prop
  | [], a, w => R a w
  | (o, true) :: rest, a, w => if Region.wanted o (yielded ops a.tmps) then o.wp P a w (fun a' w' => ((z = true ∧ rest = []) ∨ C w') ∧ wpLex P z ops C R rest a' w') (OnlyOn R) else C w ∧ wpLex P z ops C R rest (a.put o.dst undef) w
  | (o, false) :: rest, a, w => ∃ v, YieldsIf P ops C o v a ∧ wpLex P z ops C R rest (a.put o.dst v) w

/-- the operations, each with whether it may turn the world. -/
def lexTag (E : List Nat) : Nat → List Oper → List (Oper × Bool)
  | _, [] => []
  | i, o :: l => (o, E.contains i) :: lexTag E (i + 1) l

theorem wpLexI_of {E : List Nat} : ∀ (l : List Oper) (k : Nat), (∀ j, l[j]? = ops[k + j]?) → ∀ a w, wpLex P z ops C R (lexTag E k l) a w → wpLexI P z ops C R E (List.range' k l.length) a w := by
  intro l
  induction l with
  | nil => intro k _ a w h; exact h
  | cons o l ih =>
    intro k hk a w h
    have h0 : ops[k]? = some o := by simpa using (hk 0).symm
    have ih' := ih (k + 1) (fun j => by have := hk (j + 1); simpa [Nat.add_assoc, Nat.add_comm 1 j] using this)
    simp only [List.length_cons, List.range'_succ, wpLexI]
    simp only [lexTag] at h
    by_cases hE : E.contains k = true
    · rw [if_pos hE]
      rw [hE] at h
      simp only [wpLex] at h
      unfold wpOp
      simp only [h0]
      split
      · rename_i hw
        rw [if_pos hw] at h
        refine .inl (Oper.wp_mono (fun a' w' hh => ⟨hh.1.imp (fun hl => ?_) fun h => h, ih' a' w' hh.2⟩) h)
        have hl0 : l = [] := by
          have := hl.2
          cases l with
          | nil => rfl
          | cons o' l' => cases this
        subst hl0
        have h1 : ops[k + 1]? = none := by rw [← hk 1]; rfl
        have h2 := Array.getElem?_eq_none_iff.1 h1
        have h3 := (Array.getElem?_eq_some_iff.1 h0).1
        unfold lastOf
        rw [hl.1, Bool.true_and, beq_iff_eq]
        omega
      · rename_i hw
        rw [if_neg hw] at h
        exact ⟨.inr h.1, ih' _ _ h.2⟩
    · simp only [Bool.not_eq_true] at hE
      rw [if_neg (by rw [hE]; exact Bool.false_ne_true)]
      rw [hE] at h
      simp only [wpLex] at h
      obtain ⟨v, hy, hr⟩ := h
      exact ⟨o, v, h0, hy, ih' _ _ hr⟩

/-- THE REGION. -/
theorem wp_region_lexz {id : Nat} {l : List Oper} {Q : Exit → Act → World → Prop} {a : Act} {w : World} (C : World → Prop) (E : List Nat) (hm : P.follows .mixedOrders = true) (hok : lexOK l.toArray E = true) (hz : z = true → lexLast l.toArray = true)
    (hC : C w.drew) (h : wpLex P z l.toArray C (Q .normal) (lexTag E 0 l) a w.drew) : (Code.region id l.toArray true).wp P Q a w := by
  refine Code.wp_mono (Q := OnlyOn (Q .normal)) (fun e a w hh => by obtain ⟨rfl, hh⟩ := hh; exact hh) ?_
  refine wp_region_any hm ?_
  have h1 := wpLexI_of l 0 (fun j => by simp) a w.drew h
  have h2 := wpAny_of_lex hok hz (List.range' 0 l.length) (Array.replicate l.length false) a w.drew (by simp) (fun k o _ hk => by
    simp only [Array.getD_eq_getD_getElem?, Array.getElem?_replicate] at hk
    split at hk <;> simp at hk) (List.pairwise_lt_range' ..) (fun i => by
    simp only [List.mem_range'_1, List.size_toArray, Nat.zero_add, Nat.zero_le, true_and]
    constructor
    · intro hi; exact ⟨hi, by simp [hi]⟩
    · intro hi; exact hi.1) (.inr hC) h1
  simpa using h2

theorem wp_region_lex {id : Nat} {l : List Oper} {Q : Exit → Act → World → Prop} {a : Act} {w : World} (C : World → Prop) (E : List Nat) (hm : P.follows .mixedOrders = true) (hok : lexOK l.toArray E = true)
    (hC : C w.drew) (h : wpLex P false l.toArray C (Q .normal) (lexTag E 0 l) a w.drew) : (Code.region id l.toArray true).wp P Q a w := wp_region_lexz (z := false) C E hm hok (fun h => by cases h) hC h
/-- the same, where the last operation waits for all others: it may leave the class. -/
theorem wp_region_lexl {id : Nat} {l : List Oper} {Q : Exit → Act → World → Prop} {a : Act} {w : World} (C : World → Prop) (E : List Nat) (hm : P.follows .mixedOrders = true) (hok : lexOK l.toArray E = true) (hl : lexLast l.toArray = true)
    (hC : C w.drew) (h : wpLex P true l.toArray C (Q .normal) (lexTag E 0 l) a w.drew) : (Code.region id l.toArray true).wp P Q a w := wp_region_lexz (z := true) C E hm hok (fun _ => hl) hC h

theorem lex_nil {a : Act} {w : World} (h : R a w) : wpLex P z ops C R [] a w := h
/-- an operation of the first kind that is carried out. -/
theorem lex_pure {o : Oper} {rest : List (Oper × Bool)} {a : Act} {w : World} (hg : Region.wanted o (yielded ops a.tmps) = true)
    (h : ∃ v, (∀ W, C W → (execOp a.eval o).run P W = .ok (.value v) W) ∧ wpLex P z ops C R rest (a.put o.dst v) w) : wpLex P z ops C R ((o, false) :: rest) a w :=
  let ⟨v, hrun, h⟩ := h
  ⟨v, .inl ⟨hg, hrun⟩, h⟩
theorem lex_pureK {o : Oper} {rest : List (Oper × Bool)} {a : Act} {w : World} (hg : Region.wanted o (yielded ops a.tmps) = true)
    (h : ∀ K : Act → Prop, (∀ a, wpLex P z ops C R rest a w → K a) → ∃ v, (∀ W, C W → (execOp a.eval o).run P W = .ok (.value v) W) ∧ K (a.put o.dst v)) : wpLex P z ops C R ((o, false) :: rest) a w := lex_pure hg (h _ fun _ h => h)
theorem put_lit (l : List Value) (ds : List Deferred) (d : Nat) (v : Value) : Act.put ⟨l.toArray, ds⟩ (some d) v = ⟨(l.set d v).toArray, ds⟩ := by simp [Act.put]
theorem put_no (a : Act) (v : Value) : a.put none v = a := rfl
/-- an operation whose guard is false. -/
theorem lex_skip {o : Oper} {rest : List (Oper × Bool)} {a : Act} {w : World} (hg : Region.wanted o (yielded ops a.tmps) = false)
    (h : wpLex P z ops C R rest (a.put o.dst undef) w) : wpLex P z ops C R ((o, false) :: rest) a w := ⟨undef, .inr ⟨hg, rfl⟩, h⟩
/-- an operation of the second kind. -/
theorem lex_eff {o : Oper} {rest : List (Oper × Bool)} {a : Act} {w : World} (hg : Region.wanted o (yielded ops a.tmps) = true)
    (h : ∀ K : Act → World → Prop, (∀ a' w', C w' → wpLex P z ops C R rest a' w' → K a' w') → o.wp P a w K (OnlyOn R)) : wpLex P z ops C R ((o, true) :: rest) a w := by
  simp only [wpLex]
  rw [if_pos hg]
  exact h _ fun a' w' hC hh => ⟨.inr hC, hh⟩
/-- the last of all. -/
theorem lex_effLast {o : Oper} {a : Act} {w : World} (hg : Region.wanted o (yielded ops a.tmps) = true)
    (h : ∀ K : Act → World → Prop, (∀ a' w', R a' w' → K a' w') → o.wp P a w K (OnlyOn R)) : wpLex P true ops C R [(o, true)] a w := by
  simp only [wpLex]
  rw [if_pos hg]
  exact h _ fun a' w' hh => ⟨.inl (by simp), hh⟩
theorem lex_skipE {o : Oper} {rest : List (Oper × Bool)} {a : Act} {w : World} (hg : Region.wanted o (yielded ops a.tmps) = false) (hC : C w)
    (h : wpLex P z ops C R rest (a.put o.dst undef) w) : wpLex P z ops C R ((o, true) :: rest) a w := by
  simp only [wpLex]
  rw [if_neg (by rw [hg]; exact Bool.false_ne_true)]
  exact ⟨hC, h⟩
end
end Go.GwYtckgjiiogmcbmaa
