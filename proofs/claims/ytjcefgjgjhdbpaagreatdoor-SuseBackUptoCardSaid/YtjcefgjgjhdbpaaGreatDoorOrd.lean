/-
  A region that draws its order, walked in one order of the prover's choosing: a helper text of this seat. Quiet operations (which yield one value in every world that meets S and leave it) are taken first; any other operation is carried out when it alone can come up. Conditions: two Bools over the region, for the kernel.
-/
import Derived.OrdersHeld
import Derived.WalkKit
import Derived.StillTactics
import Derived.Deep.QuietTactic
import Derived.BigQuiet
namespace Go.Proofs.YtjcefgjgjhdbpaaGreatDoor
set_option linter.unusedVariables false
set_option linter.unusedSimpArgs false
open Go.RowKit
section
variable {P : Program} {ops : Array Oper} {Q : Exit → Act → World → Prop} {md : Region.Mode} {S : World → Prop} {c : Nat}

/-- Whatever order is picked from here on; behind every operation but number c the condition S holds. -/
def wpAnyC (P : Program) (md : Region.Mode) (ops : Array Oper) (Q : Exit → Act → World → Prop) (S : World → Prop) (c : Nat) : Nat → Array Bool → Act → World → Prop
  | 0, listed, a, w => Region.ready md ops listed = [] ∧ Q .normal a w
  | fuel + 1, listed, a, w =>
    (Region.ready md ops listed = [] → Q .normal a w) ∧
    ∀ i ∈ Region.ready md ops listed, wpOp P ops Q i (fun a' w' => (i = c → wpAny P md ops Q fuel (listed.setIfInBounds i true) a' w') ∧ (i ≠ c → S w' ∧ wpAnyC P md ops Q S c fuel (listed.setIfInBounds i true) a' w')) a w

theorem wpAny_of_C : ∀ (fuel : Nat) (listed : Array Bool) (a : Act) (w : World), wpAnyC P md ops Q S c fuel listed a w → wpAny P md ops Q fuel listed a w
  | 0, _, _, _, h => h
  | fuel + 1, _, _, _, h => ⟨h.1, fun i hi => wpOp_mono (fun a' w' h' => by
      by_cases hc : i = c
      · exact h'.1 hc
      · exact wpAny_of_C fuel _ a' w' (h'.2 hc).2) (h.2 i hi)⟩

/-- A quiet operation that c waits for may be taken first. -/
theorem wpAnyC_first {i : Nat} {oi : Oper} {v : Value} (hi : ops[i]? = some oi) (hsel : ∀ (j : Nat) (o : Oper) cs b, ops[j]? = some o → o.op ≠ .select cs b)
    (hQ : ∀ c a w, Q (.panic c) (a.put oi.dst v) w → Q (.panic c) a w) (hic : i ≠ c) (hc : ∀ oc, ops[c]? = some oc → ∃ e ∈ oc.after, Region.binds md e = true ∧ e.on = i) :
    ∀ (fuel : Nat) (listed : Array Bool) (a : Act) (w : World),
      (∀ j oj, ops[j]? = some oj → j ≠ i → listed.getD j true = false → (∀ e ∈ oj.after, Region.binds md e = true → e.on ≠ i) → oi.apart ops oj = true) →
      i ∈ Region.ready md ops listed → YieldsIf P ops S oi v a → S w →
      wpAnyC P md ops Q S c fuel (listed.setIfInBounds i true) (a.put oi.dst v) w → wpAnyC P md ops Q S c (fuel + 1) listed a w := by
  intro fuel
  induction fuel with
  | zero =>
    intro listed a w _ hr hy hS H
    refine ⟨fun h => (by rw [h] at hr; cases hr), fun j hj => ?_⟩
    by_cases hji : j = i
    · subst hji; exact hy.wpOp hi hS ⟨fun h => absurd h hic, fun _ => ⟨hS, H⟩⟩
    · have := ready_mono hj hji
      rw [H.1] at this
      cases this
  | succ fuel ih =>
    intro listed a w hfree hr hy hS H
    refine ⟨fun h => (by rw [h] at hr; cases hr), fun j hj => ?_⟩
    by_cases hji : j = i
    · subst hji; exact hy.wpOp hi hS ⟨fun h => absurd h hic, fun _ => ⟨hS, H⟩⟩
    · have h1 := H.2 j (ready_mono hj hji)
      obtain ⟨hjun, oj, hoj, hall⟩ := mem_ready.1 hj
      have hnot : ∀ e ∈ oj.after, Region.binds md e = true → e.on ≠ i := fun e he hb heq => by
        have h1 := hall e he hb
        have h0 := (mem_ready.1 hr).1
        rw [heq] at h1
        rcases Nat.lt_or_ge i listed.size with h' | h'
        · simp [h'] at h0 h1; rw [h0] at h1; cases h1
        · simp [Array.getElem?_eq_none h'] at h1
      have hjc : j ≠ c := fun e => by
        subst e
        obtain ⟨e, he, hb, hon⟩ := hc oj hoj
        exact hnot e he hb hon
      have h2 := wpOp_putIf hoj (hfree j oj hoj hji hjun hnot) (fun cs b => hsel i oi cs b hi) (fun cs b => hsel j oj cs b hoj) hQ hy h1
      have hfree' : ∀ k ok, ops[k]? = some ok → k ≠ i → (listed.setIfInBounds j true).getD k true = false →
          (∀ e ∈ ok.after, Region.binds md e = true → e.on ≠ i) → oi.apart ops ok = true := fun k ok hk hki hun hno => by
        refine hfree k ok hk hki ?_ hno
        by_cases hjk : j = k
        · subst hjk; exact hjun
        · rw [getD_set_ne true hjk] at hun; exact hun
      refine wpOp_mono (fun a' w' h3 => ⟨fun h => absurd h hjc, fun _ => ?_⟩) h2
      have h4 := h3.2.2 hjc
      refine ⟨h4.1, ih (listed.setIfInBounds j true) a' w' hfree' (ready_mono hr (Ne.symm hji)) h3.1 h4.1 ?_⟩
      rw [Array.setIfInBounds_comm _ _ hji]
      exact h4.2

/-- What a quiet operation's run must be: a value for which K holds, in the world that it got. -/
def givesUpon (w : World) (K : Value → Prop) : Result Next → Prop
  | .ok (.value u) w' => w' = w ∧ K u
  | _ => False
def givesAt (P : Program) (o : Oper) (a : Act) (w : World) (K : Value → Prop) : Prop := givesUpon w K ((execOp a.eval o).run P w)
attribute [go_sem] givesAt givesUpon
theorem givesAt_run {o : Oper} {a : Act} {w : World} {v : Value} (h : ∀ K : Value → Prop, K v → givesAt P o a w K) : (execOp a.eval o).run P w = .ok (.value v) w := by
  have h := h (fun u => u = v) rfl
  unfold givesAt at h
  generalize (execOp a.eval o).run P w = r at *
  cases r with
  | ok n w' =>
    cases n <;> simp only [givesUpon] at h
    obtain ⟨rfl, rfl⟩ := h
    rfl
  | halt x w' => simp only [givesUpon] at h

/-- THE WALK: a list of (quiet?, number). -/
def wpOrd (P : Program) (ops : Array Oper) (Q : Exit → Act → World → Prop) (S : World → Prop) (c : Nat) : List (Bool × Oper) → List Nat → Act → World → Prop
  | (true, o) :: rest, _ :: is, a, w => if Region.wanted o (yielded ops a.tmps) then ∃ v, (∀ w', S w' → (execOp a.eval o).run P w' = .ok (.value v) w') ∧ wpOrd P ops Q S c rest is (a.put o.dst v) w else wpOrd P ops Q S c rest is (a.put o.dst undef) w
  | (false, o) :: rest, i :: is, a, w => if Region.wanted o (yielded ops a.tmps) then o.wp P a w (fun a' w' => (i ≠ c → S w') ∧ wpOrd P ops Q S c rest is a' w') Q ∨ (o.asks P a w ∧ LetsOut Q) else (i ≠ c → S w) ∧ wpOrd P ops Q S c rest is (a.put o.dst undef) w
  | _, _, a, w => Q .normal a w

/-- The Bool over the region and the order. -/
def ordB (md : Region.Mode) (ops : Array Oper) (c : Nat) : List (Bool × Nat) → Array Bool → Bool
  | [], listed => (Region.ready md ops listed).isEmpty
  | (true, i) :: rest, listed => (Region.ready md ops listed).contains i && Region.free md ops listed i && decide (i ≠ c) &&
      (match ops[c]? with | some oc => oc.after.any (fun e => Region.binds md e && e.on == i) | none => true) && (match ops[i]? with | some _ => true | none => false) && ordB md ops c rest (listed.setIfInBounds i true)
  | (false, i) :: rest, listed => decide (Region.ready md ops listed = [i]) && (match ops[i]? with | some _ => true | none => false) && (decide (i ≠ c) || rest.isEmpty) && ordB md ops c rest (listed.setIfInBounds i true)

def ordOps (ops : Array Oper) (l : List (Bool × Nat)) : List (Bool × Oper) := l.map fun x => (x.1, ops.getD x.2 default)

theorem wpAnyC_of_ord (hQ : ∀ c a d v w, Q (.panic c) (Act.put a d v) w → Q (.panic c) a w) (hsel : Region.noSelect ops = true) : ∀ (l : List (Bool × Nat)) (listed : Array Bool) (a : Act) (w : World),
    ordB md ops c l listed = true → S w → wpOrd P ops Q S c (ordOps ops l) (l.map (·.2)) a w → wpAnyC P md ops Q S c l.length listed a w
  | [], listed, a, w, hB, _, h => ⟨by simpa [ordB] using hB, h⟩
  | (true, i) :: rest, listed, a, w, hB, hS, h => by
    simp only [ordB, Bool.and_eq_true, decide_eq_true_eq] at hB
    obtain ⟨⟨⟨⟨⟨hr, hf⟩, hic⟩, hc⟩, hoi⟩, hB'⟩ := hB
    cases ho : ops[i]? with
    | none => rw [ho] at hoi; cases hoi
    | some oi =>
      have hg : ops.getD i default = oi := by simp [Array.getD_eq_getD_getElem?, ho]
      simp only [ordOps, List.map_cons, hg, wpOrd] at h
      have hcc : ∀ oc, ops[c]? = some oc → ∃ e ∈ oc.after, Region.binds md e = true ∧ e.on = i := by
        intro oc hoc
        rw [hoc] at hc
        obtain ⟨e, he, hb⟩ := Array.any_eq_true'.1 hc
        simp only [Bool.and_eq_true, beq_iff_eq] at hb
        exact ⟨e, he, hb.1, hb.2⟩
      by_cases hw : Region.wanted oi (yielded ops a.tmps) = true
      · rw [if_pos hw] at h
        obtain ⟨v, hv, hk⟩ := h
        exact wpAnyC_first ho (Region.noSelect_spec hsel) (fun c a w => hQ c a _ v w) hic hcc rest.length listed a w (Region.free_spec ho hf) (by simpa using hr) (.inl ⟨hw, hv⟩) hS (wpAnyC_of_ord hQ hsel rest _ _ w hB' hS hk)
      · rw [if_neg hw] at h
        exact wpAnyC_first ho (Region.noSelect_spec hsel) (fun c a w => hQ c a _ undef w) hic hcc rest.length listed a w (Region.free_spec ho hf) (by simpa using hr) (.inr ⟨by simpa using hw, rfl⟩) hS (wpAnyC_of_ord hQ hsel rest _ _ w hB' hS h)
  | (false, i) :: rest, listed, a, w, hB, hS, h => by
    simp only [ordB, Bool.and_eq_true, decide_eq_true_eq] at hB
    obtain ⟨⟨⟨hr, hoi⟩, hlast⟩, hB'⟩ := hB
    cases ho : ops[i]? with
    | none => rw [ho] at hoi; cases hoi
    | some oi =>
      have hg : ops.getD i default = oi := by simp [Array.getD_eq_getD_getElem?, ho]
      simp only [ordOps, List.map_cons, hg, wpOrd] at h
      refine ⟨fun h0 => (by rw [h0] at hr; cases hr), fun j hj => ?_⟩
      rw [hr] at hj
      have hji : j = i := by simpa using hj
      subst hji
      have step : ∀ a' w', ((j ≠ c → S w') ∧ wpOrd P ops Q S c (ordOps ops rest) (rest.map (·.2)) a' w') →
          (j = c → wpAny P md ops Q rest.length (listed.setIfInBounds j true) a' w') ∧ (j ≠ c → S w' ∧ wpAnyC P md ops Q S c rest.length (listed.setIfInBounds j true) a' w') := by
        intro a' w' ⟨h1, h2⟩
        refine ⟨fun e => ?_, fun e => ⟨h1 e, wpAnyC_of_ord hQ hsel rest _ a' w' hB' (h1 e) h2⟩⟩
        have : rest = [] := by simpa [e] using hlast
        subst this
        exact ⟨by simpa [ordB] using hB', h2⟩
      unfold wpOp
      simp only [ho]
      by_cases hw : Region.wanted oi (yielded ops a.tmps) = true
      · rw [if_pos hw] at h ⊢
        exact h.imp (fun h => Oper.wp_mono (fun a' w' hk => step a' w' hk) h) id
      · rw [if_neg hw] at h ⊢
        exact step _ _ h

/-- THE RULE. -/
theorem wp_region_ord {id : Nat} {a : Act} {w : World} {l : List Oper} (S : World → Prop) (c : Nat) (ord : List (Bool × Nat)) (hm : P.follows .mixedOrders = true) (hB : (Region.noSelect l.toArray && decide (ord.length = l.length) && ordB .any l.toArray c ord (Array.replicate l.length false)) = true)
    (hQ : ∀ c a d v w, Q (.panic c) (Act.put a d v) w → Q (.panic c) a w) (hS : S w.drew)
    (h : ∀ wd, Hid (wd = w.drew) → S wd → wpOrd P l.toArray Q S c (ordOps l.toArray ord) (ord.map (·.2)) a wd) : (Code.region id l.toArray true).wp P Q a w := by
  simp only [Bool.and_eq_true, decide_eq_true_eq] at hB
  obtain ⟨⟨h1, h2⟩, h3⟩ := hB
  refine wp_region_any hm (wpAny_of_C _ _ _ _ (S := S) (c := c) ?_)
  have := wpAnyC_of_ord (P := P) (Q := Q) (S := S) (md := .any) (c := c) hQ h1 ord _ a w.drew h3 hS (h _ rfl hS)
  rw [h2] at this
  simpa using this

/-! ### the steps -/
theorem wpOrd_q {o : Oper} {rest : List (Bool × Oper)} {i : Nat} {is : List Nat} {a : Act} {w : World} (hg : o.guard = none) (v : Value) (h : ∀ w', S w' → ∀ K : Value → Prop, K v → givesAt P o a w' K)
    (hk : ∀ K : Act → Prop, (∀ a', wpOrd P ops Q S c rest is a' w → K a') → K (a.put o.dst v)) : wpOrd P ops Q S c ((true, o) :: rest) (i :: is) a w := by
  unfold wpOrd
  rw [if_pos (by simp [Region.wanted, hg])]
  exact ⟨v, fun w' hs => givesAt_run (h w' hs), hk _ fun _ h => h⟩
/-- .. one that is guarded: it is wanted. -/
theorem wpOrd_qw {o : Oper} {rest : List (Bool × Oper)} {i : Nat} {is : List Nat} {a : Act} {w : World} (hw : Region.wanted o (yielded ops a.tmps) = true) (v : Value) (h : ∀ w', S w' → ∀ K : Value → Prop, K v → givesAt P o a w' K)
    (hk : ∀ K : Act → Prop, (∀ a', wpOrd P ops Q S c rest is a' w → K a') → K (a.put o.dst v)) : wpOrd P ops Q S c ((true, o) :: rest) (i :: is) a w := by
  unfold wpOrd
  rw [if_pos hw]
  exact ⟨v, fun w' hs => givesAt_run (h w' hs), hk _ fun _ h => h⟩
/-- .. it is not wanted. -/
theorem wpOrd_qn {o : Oper} {rest : List (Bool × Oper)} {i : Nat} {is : List Nat} {a : Act} {w : World} (hw : Region.wanted o (yielded ops a.tmps) = false)
    (hk : ∀ K : Act → Prop, (∀ a', wpOrd P ops Q S c rest is a' w → K a') → K (a.put o.dst undef)) : wpOrd P ops Q S c ((true, o) :: rest) (i :: is) a w := by
  unfold wpOrd
  rw [if_neg (by rw [hw]; simp)]
  exact hk _ fun _ h => h
theorem wpOrd_l {o : Oper} {rest : List (Bool × Oper)} {i : Nat} {is : List Nat} {a : Act} {w : World} (hg : o.guard = none)
    (h : ∀ K : Act → World → Prop, (∀ a' w', ((i ≠ c → S w') ∧ wpOrd P ops Q S c rest is a' w') → K a' w') → o.wp P a w K Q) : wpOrd P ops Q S c ((false, o) :: rest) (i :: is) a w := by
  unfold wpOrd
  rw [if_pos (by simp [Region.wanted, hg])]
  exact .inl (h _ fun _ _ h => h)
theorem wpOrd_nil {is : List Nat} {a : Act} {w : World} (h : Q .normal a w) : wpOrd P ops Q S c [] is a w := by
  cases is <;> exact h
end
end Go.Proofs.YtjcefgjgjhdbpaaGreatDoor
