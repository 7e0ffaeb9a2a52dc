/-
  A region that draws its order, walked in one order: quiet operations may be calls too, of functions that hand out one value and leave the world alone. Helper text; conditions: two Bools over the region, for the kernel.
-/
import Derived.Test.YtjcefgjgjhdbpaaDoorOrd
namespace Go.Proofs.YtjcefgjgjhdbpaaDoor
set_option linter.unusedVariables false
set_option linter.unusedSimpArgs false
open Go.RowKit
section
variable {P : Program} {ops : Array Oper} {Q : Exit → Act → World → Prop} {md : Region.Mode} {S : World → Prop} {c : Nat}

/-- The operation ends with this value, and leaves the world alone: at once, or by a call. -/
def Ends (P : Program) (v : Value) (w : World) (r : Result Next) : Prop :=
  r = .ok (.value v) w ∨ ∃ f args, r = .ok (.enter f args) w ∧ Calls P f args w (fun e w' => e = .returned v ∧ w' = w)
def EndsIf (P : Program) (ops : Array Oper) (S : World → Prop) (o : Oper) (v : Value) (a : Act) : Prop :=
  if Region.wanted o (yielded ops a.tmps) = true then ∀ w, S w → Ends P v w ((execOp a.eval o).run P w) else v = undef
theorem Ends.wp {o : Oper} {v : Value} {a : Act} {w : World} (h : Ends P v w ((execOp a.eval o).run P w)) {K : Act → World → Prop} (hk : K (a.put o.dst v) w) : o.wp P a w K Q := by
  unfold Oper.wp
  rcases h with h | ⟨f, args, h, hc⟩
  · rw [h]
    exact hk
  · rw [h]
    refine Calls.mono hc ?_
    rintro e w' ⟨rfl, rfl⟩
    exact hk
theorem EndsIf.wpOp {i : Nat} {o : Oper} {v : Value} {a : Act} (hi : ops[i]? = some o) (hy : EndsIf P ops S o v a) {K : Act → World → Prop} {w : World} (hS : S w) (h : K (a.put o.dst v) w) : wpOp P ops Q i K a w := by
  unfold Go.wpOp
  unfold EndsIf at hy
  simp only [hi]
  by_cases hw : Region.wanted o (yielded ops a.tmps) = true
  · rw [if_pos hw] at hy ⊢
    exact .inl ((hy w hS).wp h)
  · rw [if_neg hw] at hy ⊢
    rw [hy] at h
    exact h
/-- What the others do to their own places is nothing to it. -/
theorem side_value {oj : Oper} {x : Option Tmp} {v : Value} {Y : Act → Prop} (hput : ∀ a u, Y a → Y (a.put oj.dst u)) (hdef : ∀ a d, Y a → Y { a with defers := d :: a.defers }) (h2 : ∀ d, x = some d → oj.dst ≠ some d)
    (hQ : ∀ c a w, Q (.panic c) (a.put x v) w → Q (.panic c) a w) {K : Act → World → Prop} {a : Act} (hy : Y a) (r : Result Next) (h : oj.upon P (a.put x v) K Q r) : oj.upon P a (fun a' w' => Y a' ∧ K (a'.put x v) w') Q r := by
  have comm : ∀ u, (a.put oj.dst u).put x v = (a.put x v).put oj.dst u := fun u => (Act.put_comm a v u h2).symm
  cases r with
  | halt e w' => cases e <;> first | exact hQ _ _ _ h | exact h
  | ok n w' =>
    cases n
    all_goals first
      | exact h
      | (rename_i u
         refine ⟨hput a u hy, ?_⟩
         rw [comm]; exact h)
      | (refine ⟨hput a _ hy, ?_⟩
         rw [comm]; exact h)
      | (rename_i d
         have h : K (({ (a.put x v) with defers := d :: (a.put x v).defers } : Act).put oj.dst undef) w' := h
         refine ⟨hput _ _ (hdef a d hy), ?_⟩
         rw [← Act.put_comm _ v undef h2, ← Act.put_defers]
         exact h)
      | (rename_i f args
         refine Calls.mono h fun e w'' he => ?_
         cases e with
         | returned u =>
           refine ⟨hput a u hy, ?_⟩
           rw [comm]; exact he
         | panicked c => exact hQ _ _ _ he
         | outgrown => exact he)
      | (rename_i f args
         refine Rows.mono h fun u w'' he => ⟨hput a u hy, ?_⟩
         rw [comm]; exact he)
theorem wpOp_putEnds {j : Nat} {oi oj : Oper} {v : Value} (hj : ops[j]? = some oj) (hap : oi.apart ops oj = true) (hsi : ∀ cs b, oi.op ≠ .select cs b) (hsj : ∀ cs b, oj.op ≠ .select cs b)
    (hQ : ∀ c a w, Q (.panic c) (a.put oi.dst v) w → Q (.panic c) a w) {K : Act → World → Prop} {a : Act} {w : World} (hy : EndsIf P ops S oi v a) (h : wpOp P ops Q j K (a.put oi.dst v) w) :
    wpOp P ops Q j (fun a' w' => EndsIf P ops S oi v a' ∧ K (a'.put oi.dst v) w') a w := by
  obtain ⟨h1, h2, h3⟩ := Oper.apart_spec hap
  have same : ∀ a a' : Act, execOp a'.eval oi = execOp a.eval oi → Region.wanted oi (yielded ops a'.tmps) = Region.wanted oi (yielded ops a.tmps) → EndsIf P ops S oi v a → EndsIf P ops S oi v a' := fun a a' e1 e2 h => by
    unfold EndsIf at *
    rw [e1, e2]
    exact h
  have hput : ∀ (a : Act) u, EndsIf P ops S oi v a → EndsIf P ops S oi v (a.put oj.dst u) := fun a u => same _ _ (execOp_put oi hsi a oj.dst u h3) (wanted_put oi a oj.dst u h3)
  have hdef : ∀ (a : Act) d, EndsIf P ops S oi v a → EndsIf P ops S oi v { a with defers := d :: a.defers } := fun a d => same _ _ rfl rfl
  unfold wpOp at *
  simp only [hj] at *
  rw [wanted_put oj a oi.dst v h1] at h
  by_cases hw : Region.wanted oj (yielded ops a.tmps) = true
  · rw [if_pos hw] at h ⊢
    rcases h with h | ⟨hasks, hlets⟩
    · left
      unfold Oper.wp at *
      rw [execOp_put oj hsj a oi.dst v h1] at h
      exact side_value hput hdef h2 hQ hy _ h
    · right
      unfold Oper.asks at *
      rw [execOp_put oj hsj a oi.dst v h1] at hasks
      exact ⟨hasks, hlets⟩
  · rw [if_neg hw] at h ⊢
    refine ⟨hput a _ hy, ?_⟩
    rw [← Act.put_comm a v undef h2]
    exact h

/-- A quiet operation that c waits for may be taken first. -/
theorem wpAnyC_firstE {i : Nat} {oi : Oper} {v : Value} (hi : ops[i]? = some oi) (hsel : ∀ (j : Nat) (o : Oper) cs b, ops[j]? = some o → o.op ≠ .select cs b)
    (hQ : ∀ c a w, Q (.panic c) (a.put oi.dst v) w → Q (.panic c) a w) (hic : i ≠ c) (hc : ∀ oc, ops[c]? = some oc → ∃ e ∈ oc.after, Region.binds md e = true ∧ e.on = i) :
    ∀ (fuel : Nat) (listed : Array Bool) (a : Act) (w : World),
      (∀ j oj, ops[j]? = some oj → j ≠ i → listed.getD j true = false → (∀ e ∈ oj.after, Region.binds md e = true → e.on ≠ i) → oi.apart ops oj = true) →
      i ∈ Region.ready md ops listed → EndsIf P ops S oi v a → S w →
      wpAnyC P md ops Q S c fuel (listed.setIfInBounds i true) (a.put oi.dst v) w → wpAnyC P md ops Q S c (fuel + 1) listed a w := by
  intro fuel
  induction fuel with
  | zero =>
    intro listed a w _ hr hy hS H
    refine ⟨fun h => (by rw [h] at hr; cases hr), fun j hj => ?_⟩
    by_cases hji : j = i
    · subst hji; exact hy.wpOp hi hS ⟨fun h => absurd h hic, fun _ => ⟨hS, H⟩⟩
    · have := ready_mono hj hji
      rw [H.1] at this
      cases this
  | succ fuel ih =>
    intro listed a w hfree hr hy hS H
    refine ⟨fun h => (by rw [h] at hr; cases hr), fun j hj => ?_⟩
    by_cases hji : j = i
    · subst hji; exact hy.wpOp hi hS ⟨fun h => absurd h hic, fun _ => ⟨hS, H⟩⟩
    · have h1 := H.2 j (ready_mono hj hji)
      obtain ⟨hjun, oj, hoj, hall⟩ := mem_ready.1 hj
      have hnot : ∀ e ∈ oj.after, Region.binds md e = true → e.on ≠ i := fun e he hb heq => by
        have h1 := hall e he hb
        have h0 := (mem_ready.1 hr).1
        rw [heq] at h1
        rcases Nat.lt_or_ge i listed.size with h' | h'
        · simp [h'] at h0 h1; rw [h0] at h1; cases h1
        · simp [Array.getElem?_eq_none h'] at h1
      have hjc : j ≠ c := fun e => by
        subst e
        obtain ⟨e, he, hb, hon⟩ := hc oj hoj
        exact hnot e he hb hon
      have h2 := wpOp_putEnds hoj (hfree j oj hoj hji hjun hnot) (fun cs b => hsel i oi cs b hi) (fun cs b => hsel j oj cs b hoj) hQ hy h1
      have hfree' : ∀ k ok, ops[k]? = some ok → k ≠ i → (listed.setIfInBounds j true).getD k true = false →
          (∀ e ∈ ok.after, Region.binds md e = true → e.on ≠ i) → oi.apart ops ok = true := fun k ok hk hki hun hno => by
        refine hfree k ok hk hki ?_ hno
        by_cases hjk : j = k
        · subst hjk; exact hjun
        · rw [getD_set_ne true hjk] at hun; exact hun
      refine wpOp_mono (fun a' w' h3 => ⟨fun h => absurd h hjc, fun _ => ?_⟩) h2
      have h4 := h3.2.2 hjc
      refine ⟨h4.1, ih (listed.setIfInBounds j true) a' w' hfree' (ready_mono hr (Ne.symm hji)) h3.1 h4.1 ?_⟩
      rw [Array.setIfInBounds_comm _ _ hji]
      exact h4.2

/-- THE WALK: a list of (quiet?, number). -/
def wpOrdE (P : Program) (ops : Array Oper) (Q : Exit → Act → World → Prop) (S : World → Prop) (c : Nat) : List (Bool × Oper) → List Nat → Act → World → Prop
  | (true, o) :: rest, _ :: is, a, w => ∃ v, EndsIf P ops S o v a ∧ wpOrdE P ops Q S c rest is (a.put o.dst v) w
  | (false, o) :: rest, i :: is, a, w => if Region.wanted o (yielded ops a.tmps) then o.wp P a w (fun a' w' => (i ≠ c → S w') ∧ wpOrdE P ops Q S c rest is a' w') Q ∨ (o.asks P a w ∧ LetsOut Q) else (i ≠ c → S w) ∧ wpOrdE P ops Q S c rest is (a.put o.dst undef) w
  | _, _, a, w => Q .normal a w
theorem wpAnyC_of_ordE (hQ : ∀ c a d v w, Q (.panic c) (Act.put a d v) w → Q (.panic c) a w) (hsel : Region.noSelect ops = true) : ∀ (l : List (Bool × Nat)) (listed : Array Bool) (a : Act) (w : World),
    ordB md ops c l listed = true → S w → wpOrdE P ops Q S c (ordOps ops l) (l.map (·.2)) a w → wpAnyC P md ops Q S c l.length listed a w
  | [], listed, a, w, hB, _, h => ⟨by simpa [ordB] using hB, h⟩
  | (true, i) :: rest, listed, a, w, hB, hS, h => by
    simp only [ordB, Bool.and_eq_true, decide_eq_true_eq] at hB
    obtain ⟨⟨⟨⟨⟨hr, hf⟩, hic⟩, hc⟩, hoi⟩, hB'⟩ := hB
    cases ho : ops[i]? with
    | none => rw [ho] at hoi; cases hoi
    | some oi =>
      have hg : ops.getD i default = oi := by simp [Array.getD_eq_getD_getElem?, ho]
      simp only [ordOps, List.map_cons, hg, wpOrdE] at h
      have hcc : ∀ oc, ops[c]? = some oc → ∃ e ∈ oc.after, Region.binds md e = true ∧ e.on = i := by
        intro oc hoc
        rw [hoc] at hc
        obtain ⟨e, he, hb⟩ := Array.any_eq_true'.1 hc
        simp only [Bool.and_eq_true, beq_iff_eq] at hb
        exact ⟨e, he, hb.1, hb.2⟩
      obtain ⟨v, hv, hk⟩ := h
      exact wpAnyC_firstE ho (Region.noSelect_spec hsel) (fun c a w => hQ c a _ v w) hic hcc rest.length listed a w (Region.free_spec ho hf) (by simpa using hr) hv hS (wpAnyC_of_ordE hQ hsel rest _ _ w hB' hS hk)
  | (false, i) :: rest, listed, a, w, hB, hS, h => by
    simp only [ordB, Bool.and_eq_true, decide_eq_true_eq] at hB
    obtain ⟨⟨⟨hr, hoi⟩, hlast⟩, hB'⟩ := hB
    cases ho : ops[i]? with
    | none => rw [ho] at hoi; cases hoi
    | some oi =>
      have hg : ops.getD i default = oi := by simp [Array.getD_eq_getD_getElem?, ho]
      simp only [ordOps, List.map_cons, hg, wpOrdE] at h
      refine ⟨fun h0 => (by rw [h0] at hr; cases hr), fun j hj => ?_⟩
      rw [hr] at hj
      have hji : j = i := by simpa using hj
      subst hji
      have step : ∀ a' w', ((j ≠ c → S w') ∧ wpOrdE P ops Q S c (ordOps ops rest) (rest.map (·.2)) a' w') →
          (j = c → wpAny P md ops Q rest.length (listed.setIfInBounds j true) a' w') ∧ (j ≠ c → S w' ∧ wpAnyC P md ops Q S c rest.length (listed.setIfInBounds j true) a' w') := by
        intro a' w' ⟨h1, h2⟩
        refine ⟨fun e => ?_, fun e => ⟨h1 e, wpAnyC_of_ordE hQ hsel rest _ a' w' hB' (h1 e) h2⟩⟩
        have : rest = [] := by simpa [e] using hlast
        subst this
        exact ⟨by simpa [ordB] using hB', h2⟩
      unfold wpOp
      simp only [ho]
      by_cases hw : Region.wanted oi (yielded ops a.tmps) = true
      · rw [if_pos hw] at h ⊢
        exact h.imp (fun h => Oper.wp_mono (fun a' w' hk => step a' w' hk) h) id
      · rw [if_neg hw] at h ⊢
        exact step _ _ h

/-- THE RULE. -/
theorem wp_region_ordE {id : Nat} {a : Act} {w : World} {l : List Oper} (S : World → Prop) (c : Nat) (ord : List (Bool × Nat)) (hm : P.follows .mixedOrders = true) (hB : (Region.noSelect l.toArray && decide (ord.length = l.length) && ordB .any l.toArray c ord (Array.replicate l.length false)) = true)
    (hQ : ∀ c a d v w, Q (.panic c) (Act.put a d v) w → Q (.panic c) a w) (hS : S w.drew)
    (h : ∀ wd, Hid (wd = w.drew) → S wd → wpOrdE P l.toArray Q S c (ordOps l.toArray ord) (ord.map (·.2)) a wd) : (Code.region id l.toArray true).wp P Q a w := by
  simp only [Bool.and_eq_true, decide_eq_true_eq] at hB
  obtain ⟨⟨h1, h2⟩, h3⟩ := hB
  refine wp_region_any hm (wpAny_of_C _ _ _ _ (S := S) (c := c) ?_)
  have := wpAnyC_of_ordE (P := P) (Q := Q) (S := S) (md := .any) (c := c) hQ h1 ord _ a w.drew h3 hS (h _ rfl hS)
  rw [h2] at this
  simpa using this

/-! ### the steps -/
theorem ordE_q {o : Oper} {rest : List (Bool × Oper)} {i : Nat} {is : List Nat} {a : Act} {w : World} (hg : o.guard = none) (v : Value) (h : ∀ w', S w' → ∀ K : Value → Prop, K v → givesAt P o a w' K)
    (hk : ∀ K : Act → Prop, (∀ a', wpOrdE P ops Q S c rest is a' w → K a') → K (a.put o.dst v)) : wpOrdE P ops Q S c ((true, o) :: rest) (i :: is) a w := by
  unfold wpOrdE
  refine ⟨v, ?_, hk _ fun _ h => h⟩
  unfold EndsIf
  rw [if_pos (by simp [Region.wanted, hg])]
  exact fun w' hs => .inl (givesAt_run (h w' hs))
/-- What a call's run must be. -/
def entersUpon (w : World) (K : FuncId → Array Value → Prop) : Result Next → Prop
  | .ok (.enter f args) w' => w' = w ∧ K f args
  | _ => False
def entersAt (P : Program) (o : Oper) (a : Act) (w : World) (K : FuncId → Array Value → Prop) : Prop := entersUpon w K ((execOp a.eval o).run P w)
attribute [go_sem] entersAt entersUpon
theorem entersAt_run {o : Oper} {a : Act} {w : World} {v : Value} (h : entersAt P o a w fun f args => Calls P f args w (fun e w' => e = .returned v ∧ w' = w)) : Ends P v w ((execOp a.eval o).run P w) := by
  unfold entersAt at h
  generalize (execOp a.eval o).run P w = r at *
  cases r with
  | ok n w' =>
    cases n <;> simp only [entersUpon] at h
    obtain ⟨rfl, h⟩ := h
    exact .inr ⟨_, _, rfl, h⟩
  | halt x w' => simp only [entersUpon] at h
/-- .. a call. -/
theorem ordE_c {o : Oper} {rest : List (Bool × Oper)} {i : Nat} {is : List Nat} {a : Act} {w : World} (hg : o.guard = none) (v : Value) (h : ∀ w', S w' → entersAt P o a w' fun f args => Calls P f args w' (fun e w'' => e = .returned v ∧ w'' = w'))
    (hk : ∀ K : Act → Prop, (∀ a', wpOrdE P ops Q S c rest is a' w → K a') → K (a.put o.dst v)) : wpOrdE P ops Q S c ((true, o) :: rest) (i :: is) a w := by
  unfold wpOrdE
  refine ⟨v, ?_, hk _ fun _ h => h⟩
  unfold EndsIf
  rw [if_pos (by simp [Region.wanted, hg])]
  exact fun w' hs => entersAt_run (h w' hs)
theorem ordE_l {o : Oper} {rest : List (Bool × Oper)} {i : Nat} {is : List Nat} {a : Act} {w : World} (hg : o.guard = none)
    (h : ∀ K : Act → World → Prop, (∀ a' w', ((i ≠ c → S w') ∧ wpOrdE P ops Q S c rest is a' w') → K a' w') → o.wp P a w K Q) : wpOrdE P ops Q S c ((false, o) :: rest) (i :: is) a w := by
  unfold wpOrdE
  rw [if_pos (by simp [Region.wanted, hg])]
  exact .inl (h _ fun _ _ h => h)
theorem ordE_nil {is : List Nat} {a : Act} {w : World} (h : Q .normal a w) : wpOrdE P ops Q S c [] is a w := by
  cases is <;> exact h
end
end Go.Proofs.YtjcefgjgjhdbpaaDoor
