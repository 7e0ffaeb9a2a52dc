/-
  A region that draws its order, walked in one order, over two conditions: S is lost by operation c (a store to a cell that others load), S' by the last operation e alone. A helper text of this seat. Conditions: two Bools over the region, for the kernel.
-/
import Derived.Test.YtjcefgjgjhdbpaaGreatDoorOrd
namespace Go.Proofs.YtjcefgjgjhdbpaaGreatDoor
set_option linter.unusedVariables false
set_option linter.unusedSimpArgs false
open Go.RowKit
namespace Two
section
variable {P : Program} {ops : Array Oper} {Q : Exit → Act → World → Prop} {md : Region.Mode} {S S' : World → Prop} {c d : Nat}

/-- Whatever order is picked from here on: S holds till c comes, S' till d, the last. -/
def wpAnyD (P : Program) (md : Region.Mode) (ops : Array Oper) (Q : Exit → Act → World → Prop) (S S' : World → Prop) (c d : Nat) : Nat → Array Bool → Act → World → Prop
  | 0, listed, a, w => Region.ready md ops listed = [] ∧ Q .normal a w
  | fuel + 1, listed, a, w =>
    (Region.ready md ops listed = [] → Q .normal a w) ∧
    ∀ i ∈ Region.ready md ops listed, wpOp P ops Q i (fun a' w' => (i = d → wpAny P md ops Q fuel (listed.setIfInBounds i true) a' w') ∧
      (i ≠ d → ((listed.getD c true = false → i ≠ c → S w') ∧ S' w') ∧ wpAnyD P md ops Q S S' c d fuel (listed.setIfInBounds i true) a' w')) a w

theorem wpAny_of_D : ∀ (fuel : Nat) (listed : Array Bool) (a : Act) (w : World), wpAnyD P md ops Q S S' c d fuel listed a w → wpAny P md ops Q fuel listed a w
  | 0, _, _, _, h => h
  | fuel + 1, _, _, _, h => ⟨h.1, fun i hi => wpOp_mono (fun a' w' h' => by
      by_cases hc : i = d
      · exact h'.1 hc
      · exact wpAny_of_D fuel _ a' w' (h'.2 hc).2) (h.2 i hi)⟩

theorem not_waits {listed : Array Bool} {i : Nat} {oj : Oper} (hr : i ∈ Region.ready md ops listed) (hall : ∀ e ∈ oj.after, Region.binds md e = true → listed.getD e.on false = true) : ∀ e ∈ oj.after, Region.binds md e = true → e.on ≠ i := fun e he hb heq => by
  have h1 := hall e he hb
  have h0 := (mem_ready.1 hr).1
  rw [heq] at h1
  rcases Nat.lt_or_ge i listed.size with h' | h'
  · simp [h'] at h0 h1; rw [h0] at h1; cases h1
  · simp [Array.getElem?_eq_none h'] at h1

/-- A quiet operation that leans on S' may be taken first. -/
theorem firstB {i : Nat} {oi : Oper} {v : Value} (hi : ops[i]? = some oi) (hsel : ∀ (j : Nat) (o : Oper) cs b, ops[j]? = some o → o.op ≠ .select cs b)
    (hQ : ∀ c a w, Q (.panic c) (a.put oi.dst v) w → Q (.panic c) a w) (hic : i ≠ c) (hid : i ≠ d) (hd : ∀ od, ops[d]? = some od → ∃ e ∈ od.after, Region.binds md e = true ∧ e.on = i) :
    ∀ (fuel : Nat) (listed : Array Bool) (a : Act) (w : World),
      (∀ j oj, ops[j]? = some oj → j ≠ i → listed.getD j true = false → (∀ e ∈ oj.after, Region.binds md e = true → e.on ≠ i) → oi.apart ops oj = true) →
      i ∈ Region.ready md ops listed → YieldsIf P ops S' oi v a → (listed.getD c true = false → S w) → S' w →
      wpAnyD P md ops Q S S' c d fuel (listed.setIfInBounds i true) (a.put oi.dst v) w → wpAnyD P md ops Q S S' c d (fuel + 1) listed a w := by
  intro fuel
  induction fuel with
  | zero =>
    intro listed a w _ hr hy hS hS' H
    refine ⟨fun h => (by rw [h] at hr; cases hr), fun j hj => ?_⟩
    by_cases hji : j = i
    · subst hji; exact hy.wpOp hi hS' ⟨fun h => absurd h hid, fun _ => ⟨⟨fun h _ => hS h, hS'⟩, H⟩⟩
    · have := ready_mono hj hji
      rw [H.1] at this
      cases this
  | succ fuel ih =>
    intro listed a w hfree hr hy hS hS' H
    refine ⟨fun h => (by rw [h] at hr; cases hr), fun j hj => ?_⟩
    by_cases hji : j = i
    · subst hji; exact hy.wpOp hi hS' ⟨fun h => absurd h hid, fun _ => ⟨⟨fun h _ => hS h, hS'⟩, H⟩⟩
    · have h1 := H.2 j (ready_mono hj hji)
      obtain ⟨hjun, oj, hoj, hall⟩ := mem_ready.1 hj
      have hnot := not_waits hr hall
      have hjd : j ≠ d := fun e => by
        subst e
        obtain ⟨e, he, hb, hon⟩ := hd oj hoj
        exact hnot e he hb hon
      have h2 := wpOp_putIf hoj (hfree j oj hoj hji hjun hnot) (fun cs b => hsel i oi cs b hi) (fun cs b => hsel j oj cs b hoj) hQ hy h1
      have hfree' : ∀ k ok, ops[k]? = some ok → k ≠ i → (listed.setIfInBounds j true).getD k true = false →
          (∀ e ∈ ok.after, Region.binds md e = true → e.on ≠ i) → oi.apart ops ok = true := fun k ok hk hki hun hno => by
        refine hfree k ok hk hki ?_ hno
        by_cases hjk : j = k
        · subst hjk; exact hjun
        · rw [getD_set_ne true hjk] at hun; exact hun
      refine wpOp_mono (fun a' w' h3 => ⟨fun h => absurd h hjd, fun _ => ?_⟩) h2
      have h4 := h3.2.2 hjd
      have hSc : listed.getD c true = false → j ≠ c → S w' := fun hl hjc => h4.1.1 (by rw [getD_set_ne true hic]; exact hl) hjc
      refine ⟨⟨hSc, h4.1.2⟩, ih (listed.setIfInBounds j true) a' w' hfree' (ready_mono hr (Ne.symm hji)) h3.1 (fun hl => ?_) h4.1.2 ?_⟩
      · by_cases hjc : j = c
        · subst hjc
          rcases Nat.lt_or_ge j listed.size with h' | h'
          · simp [Array.getD_eq_getD_getElem?, h'] at hl
          · simp [Array.getD_eq_getD_getElem?, Array.getElem?_eq_none h'] at hjun
        · rw [getD_set_ne true hjc] at hl
          exact hSc hl hjc
      · rw [Array.setIfInBounds_comm _ _ hji]
        exact h4.2

/-- A quiet operation that leans on S, and for which c waits, may be taken first. -/
theorem firstA {i : Nat} {oi : Oper} {v : Value} (hi : ops[i]? = some oi) (hsel : ∀ (j : Nat) (o : Oper) cs b, ops[j]? = some o → o.op ≠ .select cs b)
    (hQ : ∀ c a w, Q (.panic c) (a.put oi.dst v) w → Q (.panic c) a w) (hic : i ≠ c) (hid : i ≠ d) (hc : ∀ oc, ops[c]? = some oc → ∃ e ∈ oc.after, Region.binds md e = true ∧ e.on = i) (hd : ∀ od, ops[d]? = some od → ∃ e ∈ od.after, Region.binds md e = true ∧ e.on = i) :
    ∀ (fuel : Nat) (listed : Array Bool) (a : Act) (w : World),
      (∀ j oj, ops[j]? = some oj → j ≠ i → listed.getD j true = false → (∀ e ∈ oj.after, Region.binds md e = true → e.on ≠ i) → oi.apart ops oj = true) →
      i ∈ Region.ready md ops listed → YieldsIf P ops S oi v a → listed.getD c true = false → S w → S' w →
      wpAnyD P md ops Q S S' c d fuel (listed.setIfInBounds i true) (a.put oi.dst v) w → wpAnyD P md ops Q S S' c d (fuel + 1) listed a w := by
  intro fuel
  induction fuel with
  | zero =>
    intro listed a w _ hr hy hcl hS hS' H
    refine ⟨fun h => (by rw [h] at hr; cases hr), fun j hj => ?_⟩
    by_cases hji : j = i
    · subst hji; exact hy.wpOp hi hS ⟨fun h => absurd h hid, fun _ => ⟨⟨fun _ _ => hS, hS'⟩, H⟩⟩
    · have := ready_mono hj hji
      rw [H.1] at this
      cases this
  | succ fuel ih =>
    intro listed a w hfree hr hy hcl hS hS' H
    refine ⟨fun h => (by rw [h] at hr; cases hr), fun j hj => ?_⟩
    by_cases hji : j = i
    · subst hji; exact hy.wpOp hi hS ⟨fun h => absurd h hid, fun _ => ⟨⟨fun _ _ => hS, hS'⟩, H⟩⟩
    · have h1 := H.2 j (ready_mono hj hji)
      obtain ⟨hjun, oj, hoj, hall⟩ := mem_ready.1 hj
      have hnot := not_waits hr hall
      have hjd : j ≠ d := fun e => by
        subst e
        obtain ⟨e, he, hb, hon⟩ := hd oj hoj
        exact hnot e he hb hon
      have hjc : j ≠ c := fun e => by
        subst e
        obtain ⟨e, he, hb, hon⟩ := hc oj hoj
        exact hnot e he hb hon
      have h2 := wpOp_putIf hoj (hfree j oj hoj hji hjun hnot) (fun cs b => hsel i oi cs b hi) (fun cs b => hsel j oj cs b hoj) hQ hy h1
      have hfree' : ∀ k ok, ops[k]? = some ok → k ≠ i → (listed.setIfInBounds j true).getD k true = false →
          (∀ e ∈ ok.after, Region.binds md e = true → e.on ≠ i) → oi.apart ops ok = true := fun k ok hk hki hun hno => by
        refine hfree k ok hk hki ?_ hno
        by_cases hjk : j = k
        · subst hjk; exact hjun
        · rw [getD_set_ne true hjk] at hun; exact hun
      refine wpOp_mono (fun a' w' h3 => ⟨fun h => absurd h hjd, fun _ => ?_⟩) h2
      have h4 := h3.2.2 hjd
      have hSw : S w' := h4.1.1 (by rw [getD_set_ne true hic]; exact hcl) hjc
      refine ⟨⟨fun _ _ => hSw, h4.1.2⟩, ih (listed.setIfInBounds j true) a' w' hfree' (ready_mono hr (Ne.symm hji)) h3.1 (by rw [getD_set_ne true hjc]; exact hcl) hSw h4.1.2 ?_⟩
      rw [Array.setIfInBounds_comm _ _ hji]
      exact h4.2

/-- How an operation is taken: quiet under S; quiet under S'; by itself, S and S' to be shown; by itself, S' to be shown (c is it, or has been); the last. -/
inductive How
  | qa | qb | l0 | l1 | l2
deriving DecidableEq

def wpOrd2 (P : Program) (ops : Array Oper) (Q : Exit → Act → World → Prop) (S S' : World → Prop) : List (How × Oper) → Act → World → Prop
  | (.qa, o) :: rest, a, w => if Region.wanted o (yielded ops a.tmps) then ∃ v, (∀ w', S w' → (execOp a.eval o).run P w' = .ok (.value v) w') ∧ wpOrd2 P ops Q S S' rest (a.put o.dst v) w else wpOrd2 P ops Q S S' rest (a.put o.dst undef) w
  | (.qb, o) :: rest, a, w => if Region.wanted o (yielded ops a.tmps) then ∃ v, (∀ w', S' w' → (execOp a.eval o).run P w' = .ok (.value v) w') ∧ wpOrd2 P ops Q S S' rest (a.put o.dst v) w else wpOrd2 P ops Q S S' rest (a.put o.dst undef) w
  | (.l0, o) :: rest, a, w => if Region.wanted o (yielded ops a.tmps) then o.wp P a w (fun a' w' => (S w' ∧ S' w') ∧ wpOrd2 P ops Q S S' rest a' w') Q ∨ (o.asks P a w ∧ LetsOut Q) else (S w ∧ S' w) ∧ wpOrd2 P ops Q S S' rest (a.put o.dst undef) w
  | (.l1, o) :: rest, a, w => if Region.wanted o (yielded ops a.tmps) then o.wp P a w (fun a' w' => S' w' ∧ wpOrd2 P ops Q S S' rest a' w') Q ∨ (o.asks P a w ∧ LetsOut Q) else S' w ∧ wpOrd2 P ops Q S S' rest (a.put o.dst undef) w
  | (.l2, o) :: rest, a, w => if Region.wanted o (yielded ops a.tmps) then o.wp P a w (fun a' w' => wpOrd2 P ops Q S S' rest a' w') Q ∨ (o.asks P a w ∧ LetsOut Q) else wpOrd2 P ops Q S S' rest (a.put o.dst undef) w
  | [], a, w => Q .normal a w

def waits (md : Region.Mode) (ops : Array Oper) (c i : Nat) : Bool := match ops[c]? with | some oc => oc.after.any (fun e => Region.binds md e && e.on == i) | none => true
def ordB2 (md : Region.Mode) (ops : Array Oper) (c d : Nat) : List (How × Nat) → Array Bool → Bool
  | [], listed => (Region.ready md ops listed).isEmpty
  | (.qa, i) :: rest, listed => (Region.ready md ops listed).contains i && Region.free md ops listed i && decide (i ≠ c) && decide (i ≠ d) && !(listed.getD c true) && waits md ops c i && waits md ops d i && (ops[i]?).isSome && ordB2 md ops c d rest (listed.setIfInBounds i true)
  | (.qb, i) :: rest, listed => (Region.ready md ops listed).contains i && Region.free md ops listed i && decide (i ≠ c) && decide (i ≠ d) && waits md ops d i && (ops[i]?).isSome && ordB2 md ops c d rest (listed.setIfInBounds i true)
  | (.l0, i) :: rest, listed => decide (Region.ready md ops listed = [i]) && (ops[i]?).isSome && decide (i ≠ d) && decide (i < listed.size) && ordB2 md ops c d rest (listed.setIfInBounds i true)
  | (.l1, i) :: rest, listed => decide (Region.ready md ops listed = [i]) && (ops[i]?).isSome && decide (i ≠ d) && decide (i < listed.size) && (decide (i = c) || listed.getD c true) && ordB2 md ops c d rest (listed.setIfInBounds i true)
  | (.l2, i) :: rest, listed => decide (Region.ready md ops listed = [i]) && (ops[i]?).isSome && decide (i = d) && rest.isEmpty && ordB2 md ops c d rest (listed.setIfInBounds i true)

def ordOps2 (ops : Array Oper) (l : List (How × Nat)) : List (How × Oper) := l.map fun x => (x.1, ops.getD x.2 default)

theorem waits_spec {i : Nat} (h : waits md ops c i = true) : ∀ oc, ops[c]? = some oc → ∃ e ∈ oc.after, Region.binds md e = true ∧ e.on = i := by
  intro oc hoc
  unfold waits at h
  rw [hoc] at h
  obtain ⟨e, he, hb⟩ := Array.any_eq_true'.1 h
  simp only [Bool.and_eq_true, beq_iff_eq] at hb
  exact ⟨e, he, hb.1, hb.2⟩
theorem getD_keep {listed : Array Bool} {i : Nat} (h : (listed.setIfInBounds i true).getD c true = false) : listed.getD c true = false := by
  by_cases hic : i = c
  · subst hic
    rcases Nat.lt_or_ge i listed.size with h' | h'
    · simp [Array.getD_eq_getD_getElem?, h'] at h
    · simp [Array.getD_eq_getD_getElem?, Array.getElem?_eq_none h'] at h
  · rw [getD_set_ne true hic] at h
    exact h

theorem wpAnyD_of_ord (hQ : ∀ c a d v w, Q (.panic c) (Act.put a d v) w → Q (.panic c) a w) (hsel : Region.noSelect ops = true) : ∀ (l : List (How × Nat)) (listed : Array Bool) (a : Act) (w : World),
    ordB2 md ops c d l listed = true → (listed.getD c true = false → S w) → S' w → wpOrd2 P ops Q S S' (ordOps2 ops l) a w → wpAnyD P md ops Q S S' c d l.length listed a w
  | [], listed, a, w, hB, _, _, h => ⟨by simpa [ordB2] using hB, h⟩
  | (.qa, i) :: rest, listed, a, w, hB, hS, hS', h => by
    simp only [ordB2, Bool.and_eq_true, decide_eq_true_eq, Bool.not_eq_true', Option.isSome_iff_exists] at hB
    obtain ⟨⟨⟨⟨⟨⟨⟨⟨hr, hf⟩, hic⟩, hid⟩, hcl⟩, hwc⟩, hwd⟩, ⟨oi, ho⟩⟩, hB'⟩ := hB
    have hg : ops.getD i default = oi := by simp [Array.getD_eq_getD_getElem?, ho]
    simp only [ordOps2, List.map_cons, hg, wpOrd2] at h
    have hS1 := hS hcl
    have hnext : (listed.setIfInBounds i true).getD c true = false → S w := fun _ => hS1
    by_cases hw : Region.wanted oi (yielded ops a.tmps) = true
    · rw [if_pos hw] at h
      obtain ⟨v, hv, hk⟩ := h
      exact firstA ho (Region.noSelect_spec hsel) (fun c a w => hQ c a _ v w) hic hid (waits_spec hwc) (waits_spec hwd) rest.length listed a w (Region.free_spec ho hf) (by simpa using hr) (.inl ⟨hw, hv⟩) hcl hS1 hS' (wpAnyD_of_ord hQ hsel rest _ _ w hB' hnext hS' hk)
    · rw [if_neg hw] at h
      exact firstA ho (Region.noSelect_spec hsel) (fun c a w => hQ c a _ undef w) hic hid (waits_spec hwc) (waits_spec hwd) rest.length listed a w (Region.free_spec ho hf) (by simpa using hr) (.inr ⟨by simpa using hw, rfl⟩) hcl hS1 hS' (wpAnyD_of_ord hQ hsel rest _ _ w hB' hnext hS' h)
  | (.qb, i) :: rest, listed, a, w, hB, hS, hS', h => by
    simp only [ordB2, Bool.and_eq_true, decide_eq_true_eq, Option.isSome_iff_exists] at hB
    obtain ⟨⟨⟨⟨⟨⟨hr, hf⟩, hic⟩, hid⟩, hwd⟩, ⟨oi, ho⟩⟩, hB'⟩ := hB
    have hg : ops.getD i default = oi := by simp [Array.getD_eq_getD_getElem?, ho]
    simp only [ordOps2, List.map_cons, hg, wpOrd2] at h
    have hnext : (listed.setIfInBounds i true).getD c true = false → S w := fun h => hS (getD_keep h)
    by_cases hw : Region.wanted oi (yielded ops a.tmps) = true
    · rw [if_pos hw] at h
      obtain ⟨v, hv, hk⟩ := h
      exact firstB ho (Region.noSelect_spec hsel) (fun c a w => hQ c a _ v w) hic hid (waits_spec hwd) rest.length listed a w (Region.free_spec ho hf) (by simpa using hr) (.inl ⟨hw, hv⟩) hS hS' (wpAnyD_of_ord hQ hsel rest _ _ w hB' hnext hS' hk)
    · rw [if_neg hw] at h
      exact firstB ho (Region.noSelect_spec hsel) (fun c a w => hQ c a _ undef w) hic hid (waits_spec hwd) rest.length listed a w (Region.free_spec ho hf) (by simpa using hr) (.inr ⟨by simpa using hw, rfl⟩) hS hS' (wpAnyD_of_ord hQ hsel rest _ _ w hB' hnext hS' h)
  | (.l0, i) :: rest, listed, a, w, hB, hS, hS', h => by
    simp only [ordB2, Bool.and_eq_true, decide_eq_true_eq, Option.isSome_iff_exists] at hB
    obtain ⟨⟨⟨⟨hr, ⟨oi, ho⟩⟩, hid⟩, hlt⟩, hB'⟩ := hB
    have hg : ops.getD i default = oi := by simp [Array.getD_eq_getD_getElem?, ho]
    simp only [ordOps2, List.map_cons, hg, wpOrd2] at h
    refine ⟨fun h0 => (by rw [h0] at hr; cases hr), fun j hj => ?_⟩
    rw [hr] at hj
    have hji : j = i := by simpa using hj
    subst hji
    have step : ∀ a' w', ((S w' ∧ S' w') ∧ wpOrd2 P ops Q S S' (ordOps2 ops rest) a' w') →
        (j = d → wpAny P md ops Q rest.length (listed.setIfInBounds j true) a' w') ∧ (j ≠ d → ((listed.getD c true = false → j ≠ c → S w') ∧ S' w') ∧ wpAnyD P md ops Q S S' c d rest.length (listed.setIfInBounds j true) a' w') :=
      fun a' w' ⟨h1, h2⟩ => ⟨fun e => absurd e hid, fun e => ⟨⟨fun _ _ => h1.1, h1.2⟩, wpAnyD_of_ord hQ hsel rest _ a' w' hB' (fun _ => h1.1) h1.2 h2⟩⟩
    unfold wpOp
    simp only [ho]
    by_cases hw : Region.wanted oi (yielded ops a.tmps) = true
    · rw [if_pos hw] at h ⊢
      exact h.imp (fun h => Oper.wp_mono (fun a' w' hk => step a' w' hk) h) id
    · rw [if_neg hw] at h ⊢
      exact step _ _ h
  | (.l1, i) :: rest, listed, a, w, hB, hS, hS', h => by
    simp only [ordB2, Bool.and_eq_true, Bool.or_eq_true, decide_eq_true_eq, Option.isSome_iff_exists] at hB
    obtain ⟨⟨⟨⟨⟨hr, ⟨oi, ho⟩⟩, hid⟩, hlt⟩, hc⟩, hB'⟩ := hB
    have hg : ops.getD i default = oi := by simp [Array.getD_eq_getD_getElem?, ho]
    simp only [ordOps2, List.map_cons, hg, wpOrd2] at h
    refine ⟨fun h0 => (by rw [h0] at hr; cases hr), fun j hj => ?_⟩
    rw [hr] at hj
    have hji : j = i := by simpa using hj
    subst hji
    have hno : ∀ w' : World, listed.getD c true = false → j ≠ c → S w' := fun w' h1 h2 => by
      rcases hc with h3 | h3
      · exact absurd h3 h2
      · rw [h3] at h1; cases h1
    have hno2 : ∀ w' : World, (listed.setIfInBounds j true).getD c true = false → S w' := fun w' h1 => by
      rcases hc with h3 | h3
      · subst h3
        simp [Array.getD_eq_getD_getElem?, hlt] at h1
      · have := getD_keep h1
        rw [h3] at this
        cases this
    have step : ∀ a' w', (S' w' ∧ wpOrd2 P ops Q S S' (ordOps2 ops rest) a' w') →
        (j = d → wpAny P md ops Q rest.length (listed.setIfInBounds j true) a' w') ∧ (j ≠ d → ((listed.getD c true = false → j ≠ c → S w') ∧ S' w') ∧ wpAnyD P md ops Q S S' c d rest.length (listed.setIfInBounds j true) a' w') :=
      fun a' w' ⟨h1, h2⟩ => ⟨fun e => absurd e hid, fun e => ⟨⟨hno w', h1⟩, wpAnyD_of_ord hQ hsel rest _ a' w' hB' (hno2 w') h1 h2⟩⟩
    unfold wpOp
    simp only [ho]
    by_cases hw : Region.wanted oi (yielded ops a.tmps) = true
    · rw [if_pos hw] at h ⊢
      exact h.imp (fun h => Oper.wp_mono (fun a' w' hk => step a' w' hk) h) id
    · rw [if_neg hw] at h ⊢
      exact step _ _ h
  | (.l2, i) :: rest, listed, a, w, hB, hS, hS', h => by
    simp only [ordB2, Bool.and_eq_true, decide_eq_true_eq, Option.isSome_iff_exists, List.isEmpty_iff] at hB
    obtain ⟨⟨⟨⟨hr, ⟨oi, ho⟩⟩, hid⟩, he⟩, hB'⟩ := hB
    subst he
    have hg : ops.getD i default = oi := by simp [Array.getD_eq_getD_getElem?, ho]
    simp only [ordOps2, List.map_cons, hg, wpOrd2] at h
    refine ⟨fun h0 => (by rw [h0] at hr; cases hr), fun j hj => ?_⟩
    rw [hr] at hj
    have hji : j = i := by simpa using hj
    subst hji
    have step : ∀ a' w', wpOrd2 P ops Q S S' (ordOps2 ops []) a' w' →
        (j = d → wpAny P md ops Q ([] : List (How × Nat)).length (listed.setIfInBounds j true) a' w') ∧ (j ≠ d → ((listed.getD c true = false → j ≠ c → S w') ∧ S' w') ∧ wpAnyD P md ops Q S S' c d ([] : List (How × Nat)).length (listed.setIfInBounds j true) a' w') :=
      fun a' w' h1 => ⟨fun _ => ⟨by simpa [ordB2] using hB', h1⟩, fun e => absurd hid e⟩
    unfold wpOp
    simp only [ho]
    by_cases hw : Region.wanted oi (yielded ops a.tmps) = true
    · rw [if_pos hw] at h ⊢
      exact h.imp (fun h => Oper.wp_mono (fun a' w' hk => step a' w' hk) h) id
    · rw [if_neg hw] at h ⊢
      exact step _ _ h

/-- THE RULE. -/
theorem wp_region_ord2 {id : Nat} {a : Act} {w : World} {l : List Oper} (S S' : World → Prop) (c d : Nat) (ord : List (How × Nat)) (hm : P.follows .mixedOrders = true) (hB : (Region.noSelect l.toArray && decide (ord.length = l.length) && ordB2 .any l.toArray c d ord (Array.replicate l.length false)) = true)
    (hQ : ∀ c a d v w, Q (.panic c) (Act.put a d v) w → Q (.panic c) a w) (hS : S w.drew) (hS' : S' w.drew)
    (h : ∀ wd, Hid (wd = w.drew) → S wd → S' wd → wpOrd2 P l.toArray Q S S' (ordOps2 l.toArray ord) a wd) : (Code.region id l.toArray true).wp P Q a w := by
  simp only [Bool.and_eq_true, decide_eq_true_eq] at hB
  obtain ⟨⟨h1, h2⟩, h3⟩ := hB
  refine wp_region_any hm (wpAny_of_D _ _ _ _ (S := S) (S' := S') (c := c) (d := d) ?_)
  have := wpAnyD_of_ord (P := P) (Q := Q) (S := S) (S' := S') (md := .any) (c := c) (d := d) hQ h1 ord _ a w.drew h3 (fun _ => hS) hS' (h _ rfl hS hS')
  rw [h2] at this
  simpa using this

/-! ### the steps -/
theorem step_qa {o : Oper} {rest : List (How × Oper)} {a : Act} {w : World} (hg : o.guard = none) (v : Value) (h : ∀ w', S w' → ∀ K : Value → Prop, K v → givesAt P o a w' K)
    (hk : ∀ K : Act → Prop, (∀ a', wpOrd2 P ops Q S S' rest a' w → K a') → K (a.put o.dst v)) : wpOrd2 P ops Q S S' ((.qa, o) :: rest) a w := by
  unfold wpOrd2
  rw [if_pos (by simp [Region.wanted, hg])]
  exact ⟨v, fun w' hs => givesAt_run (h w' hs), hk _ fun _ h => h⟩
theorem step_qb {o : Oper} {rest : List (How × Oper)} {a : Act} {w : World} (hg : o.guard = none) (v : Value) (h : ∀ w', S' w' → ∀ K : Value → Prop, K v → givesAt P o a w' K)
    (hk : ∀ K : Act → Prop, (∀ a', wpOrd2 P ops Q S S' rest a' w → K a') → K (a.put o.dst v)) : wpOrd2 P ops Q S S' ((.qb, o) :: rest) a w := by
  unfold wpOrd2
  rw [if_pos (by simp [Region.wanted, hg])]
  exact ⟨v, fun w' hs => givesAt_run (h w' hs), hk _ fun _ h => h⟩
theorem step_l0 {o : Oper} {rest : List (How × Oper)} {a : Act} {w : World} (hg : o.guard = none)
    (h : ∀ K : Act → World → Prop, (∀ a' w', ((S w' ∧ S' w') ∧ wpOrd2 P ops Q S S' rest a' w') → K a' w') → o.wp P a w K Q) : wpOrd2 P ops Q S S' ((.l0, o) :: rest) a w := by
  unfold wpOrd2
  rw [if_pos (by simp [Region.wanted, hg])]
  exact .inl (h _ fun _ _ h => h)
theorem step_l1 {o : Oper} {rest : List (How × Oper)} {a : Act} {w : World} (hg : o.guard = none)
    (h : ∀ K : Act → World → Prop, (∀ a' w', (S' w' ∧ wpOrd2 P ops Q S S' rest a' w') → K a' w') → o.wp P a w K Q) : wpOrd2 P ops Q S S' ((.l1, o) :: rest) a w := by
  unfold wpOrd2
  rw [if_pos (by simp [Region.wanted, hg])]
  exact .inl (h _ fun _ _ h => h)
theorem step_l2 {o : Oper} {rest : List (How × Oper)} {a : Act} {w : World} (hg : o.guard = none)
    (h : ∀ K : Act → World → Prop, (∀ a' w', wpOrd2 P ops Q S S' rest a' w' → K a' w') → o.wp P a w K Q) : wpOrd2 P ops Q S S' ((.l2, o) :: rest) a w := by
  unfold wpOrd2
  rw [if_pos (by simp [Region.wanted, hg])]
  exact .inl (h _ fun _ _ h => h)
theorem step_nil {a : Act} {w : World} (h : Q .normal a w) : wpOrd2 P ops Q S S' [] a w := h
end
end Two
end Go.Proofs.YtjcefgjgjhdbpaaGreatDoor
