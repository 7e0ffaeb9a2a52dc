/-
  A region that draws its order, whose operations only add: what each one yields stays true whatever the others do. One goal an operation, none for an order. A helper text of this seat. Conditions: two Bools over the region, for the kernel.
-/
import Derived.OrdersHeld
import Derived.WalkKit
import Derived.StillTactics
import Derived.Deep.QuietTactic
import Derived.BigQuiet
namespace Go.Proofs.YtieahneoofdneaaDoor
set_option linter.unusedVariables false
set_option linter.unusedSimpArgs false
open Go.RowKit
namespace Mono

/-- What an operation comes to, by its value and the world behind it. -/
def uponW (P : Program) (K : Value → World → Prop) : Result Next → Prop
  | .ok (.value v) w' => K v w'
  | .ok .skip w' => K undef w'
  | .ok (.enter f args) w' => Calls P f args w' fun e w'' => ∃ v, e = .returned v ∧ K v w''
  | _ => False
def givesW (P : Program) (o : Oper) (a : Act) (w : World) (K : Value → World → Prop) : Prop := uponW P K ((execOp a.eval o).run P w)
attribute [go_sem] givesW uponW

section
variable {P : Program} {ops : Array Oper} {Q : Exit → Act → World → Prop} {md : Region.Mode}

theorem givesW_wp {o : Oper} {a b : Act} {w : World} {K : Act → World → Prop} (he : execOp a.eval o = execOp b.eval o) (h : givesW P o b w fun v w' => K (a.put o.dst v) w') : o.wp P a w K Q := by
  unfold givesW at h
  unfold Oper.wp
  rw [he]
  generalize (execOp b.eval o).run P w = r at *
  cases r with
  | ok n w' =>
    cases n <;> simp only [uponW, Oper.upon] at h ⊢
    · exact h
    · exact h
    · refine Calls.mono h fun e w'' he => ?_
      obtain ⟨v, rfl, hk⟩ := he
      exact hk
  | halt x w' => cases x <;> simp only [uponW] at h

/-- What comes ahead of an operation. -/
def deps (md : Region.Mode) (o : Oper) : List Nat := (o.after.toList.filter (Region.binds md ·)).map (·.on)
def dstOf (ops : Array Oper) (j : Nat) : Option Tmp := (ops[j]?).bind (·.dst)
/-- The frame in which an operation is carried out, as far as it looks. -/
def actOf (md : Region.Mode) (ops : Array Oper) (a0 : Act) (vs : Nat → Value) (o : Oper) : Act := (deps md o).foldl (fun a j => a.put (dstOf ops j) (vs j)) a0
def fill (ops : Array Oper) (a0 : Act) (vs : Nat → Value) : Act := (List.range ops.size).foldl (fun a j => a.put (dstOf ops j) (vs j)) a0

/-- The Bool over the region: edges lead back; each slot that is looked at was written by one that comes ahead, by one alone, or is written later; no slot is written twice. -/
def okB (md : Region.Mode) (ops : Array Oper) (size : Nat) : Bool :=
  Region.noSelect ops &&
  (List.range ops.size).all fun i => match ops[i]? with
    | none => true
    | some o => (deps md o).all (fun j => decide (j < i)) &&
      (match o.dst with | some t => decide (t < size) && (List.range ops.size).all (fun j => decide (j = i) || !(dstOf ops j == some t)) | none => true) &&
      (o.looksAt ops).all fun t => (List.range ops.size).all fun j => !(dstOf ops j == some t) || decide (j = i) || (deps md o).contains j || (match ops[j]? with | some oj => (deps md oj).contains i | none => false)

structure Ok (md : Region.Mode) (ops : Array Oper) (size : Nat) : Prop where
  sel : ∀ (j : Nat) (o : Oper) cs b, ops[j]? = some o → o.op ≠ .select cs b
  back : ∀ (i : Nat) (o : Oper), ops[i]? = some o → ∀ j ∈ deps md o, j < i
  inn : ∀ (i : Nat) (o : Oper) t, ops[i]? = some o → o.dst = some t → t < size
  one : ∀ i j t, dstOf ops i = some t → dstOf ops j = some t → j = i
  look : ∀ (i : Nat) (o : Oper), ops[i]? = some o → ∀ t ∈ o.looksAt ops, ∀ j, dstOf ops j = some t → j = i ∨ j ∈ deps md o ∨ ∃ oj, ops[j]? = some oj ∧ i ∈ deps md oj

theorem dst_lt {i : Nat} {t : Tmp} (h : dstOf ops i = some t) : i < ops.size := by
  unfold dstOf at h
  cases ho : ops[i]? with
  | none => rw [ho] at h; cases h
  | some o => exact (Array.getElem?_eq_some_iff.1 ho).1

theorem ok_of {size : Nat} (h : okB md ops size = true) : Ok md ops size := by
  unfold okB at h
  rw [Bool.and_eq_true] at h
  obtain ⟨h1, h2⟩ := h
  have h3 : ∀ (i : Nat) (o : Oper), ops[i]? = some o → ((deps md o).all (fun j => decide (j < i)) = true ∧
      (match o.dst with | some t => decide (t < size) && (List.range ops.size).all (fun j => decide (j = i) || !(dstOf ops j == some t)) | none => true) = true) ∧
      ((o.looksAt ops).all fun t => (List.range ops.size).all fun j => !(dstOf ops j == some t) || decide (j = i) || (deps md o).contains j || (match ops[j]? with | some oj => (deps md oj).contains i | none => false)) = true := by
    intro i o ho
    have := List.all_eq_true.1 h2 i (List.mem_range.2 (Array.getElem?_eq_some_iff.1 ho).1)
    simp only [ho, Bool.and_eq_true] at this
    exact this
  refine ⟨fun j o cs b ho => Region.noSelect_spec h1 j o cs b ho, fun i o ho j hj => ?_, fun i o t ho ht => ?_, fun i j t hi hj => ?_, fun i o ho t ht j hj => ?_⟩
  · exact of_decide_eq_true (List.all_eq_true.1 (h3 i o ho).1.1 j hj)
  · have := (h3 i o ho).1.2
    rw [ht] at this
    simp only [Bool.and_eq_true, decide_eq_true_eq] at this
    exact this.1
  · have hil := dst_lt hi
    have hjl := dst_lt hj
    obtain ⟨o, ho⟩ : ∃ o, ops[i]? = some o := ⟨_, Array.getElem?_eq_getElem hil⟩
    have hd : o.dst = some t := by unfold dstOf at hi; rw [ho] at hi; exact hi
    have := (h3 i o ho).1.2
    rw [hd] at this
    simp only [Bool.and_eq_true] at this
    have := List.all_eq_true.1 this.2 j (List.mem_range.2 hjl)
    rw [hj] at this
    simpa using this
  · have := List.all_eq_true.1 (h3 i o ho).2 t ht
    have := List.all_eq_true.1 this j (List.mem_range.2 (dst_lt hj))
    rw [hj] at this
    simp only [beq_self_eq_true, Bool.not_true, Bool.false_or, Bool.or_eq_true, decide_eq_true_eq, List.contains_iff_mem] at this
    rcases this with (h4 | h4) | h4
    · exact .inl h4
    · exact .inr (.inl h4)
    · cases hoj : ops[j]? with
      | none => rw [hoj] at h4; cases h4
      | some oj => rw [hoj] at h4; exact .inr (.inr ⟨oj, rfl, by simpa using h4⟩)

/-- A frame that is filled: a slot. -/
theorem foldl_size (vs : Nat → Value) : ∀ (js : List Nat) (a : Act), (js.foldl (fun a j => a.put (dstOf ops j) (vs j)) a).tmps.size = a.tmps.size
  | [], a => rfl
  | j :: js, a => by
    rw [List.foldl_cons, foldl_size vs js]
    cases dstOf ops j <;> simp [Act.put]
theorem foldl_defers (vs : Nat → Value) : ∀ (js : List Nat) (a : Act), (js.foldl (fun a j => a.put (dstOf ops j) (vs j)) a).defers = a.defers
  | [], a => rfl
  | j :: js, a => by
    rw [List.foldl_cons, foldl_defers vs js]
    cases dstOf ops j <;> rfl
theorem foldl_other (vs : Nat → Value) (t : Tmp) : ∀ (js : List Nat) (a : Act), (∀ j ∈ js, dstOf ops j ≠ some t) → (js.foldl (fun a j => a.put (dstOf ops j) (vs j)) a).tmps[t]? = a.tmps[t]?
  | [], a, _ => rfl
  | j :: js, a, h => by
    rw [List.foldl_cons, foldl_other vs t js _ fun k hk => h k (by simp [hk])]
    have := h j (by simp)
    cases hd : dstOf ops j with
    | none => rfl
    | some d =>
      rw [hd] at this
      have hne : d ≠ t := fun e => this (by rw [e])
      simp [Act.put, Array.getElem?_setIfInBounds_ne hne]
theorem foldl_hit (vs : Nat → Value) (t : Tmp) (j0 : Nat) (hone : ∀ j, dstOf ops j = some t → j = j0) (hd0 : dstOf ops j0 = some t) : ∀ (js : List Nat) (a : Act), t < a.tmps.size → j0 ∈ js →
    (js.foldl (fun a j => a.put (dstOf ops j) (vs j)) a).tmps[t]? = some (vs j0)
  | j :: js, a, ht, hj => by
    rw [List.foldl_cons]
    have hs : (a.put (dstOf ops j) (vs j)).tmps.size = a.tmps.size := by cases dstOf ops j <;> simp [Act.put]
    by_cases hin : j0 ∈ js
    · exact foldl_hit vs t j0 hone hd0 js _ (by rw [hs]; exact ht) hin
    · have hj0 : j0 = j := by
        rcases List.mem_cons.1 hj with h | h
        · exact h
        · exact absurd h hin
      subst hj0
      rw [foldl_other vs t js _ fun k hk e => hin (hone k e ▸ hk), hd0]
      simp [Act.put, ht]

/-- What holds when some are listed. -/
structure St (md : Region.Mode) (ops : Array Oper) (V : Nat → Value → World → Prop) (R : World → World → Prop) (a0 : Act) (w0 : World) (listed : Array Bool) (vs : Nat → Value) (a : Act) (W : World) : Prop where
  defers : a.defers = a0.defers
  size : a.tmps.size = a0.tmps.size
  other : ∀ t, (∀ j, dstOf ops j = some t → listed.getD j false = false) → a.tmps[t]? = a0.tmps[t]?
  hit : ∀ j t, dstOf ops j = some t → listed.getD j false = true → a.tmps[t]? = some (vs j)
  val : ∀ j, listed.getD j false = true → V j (vs j) W
  rel : R w0 W
  down : ∀ j o, ops[j]? = some o → listed.getD j false = true → ∀ k ∈ deps md o, listed.getD k false = true
  len : listed.size = ops.size

variable {V : Nat → Value → World → Prop} {R : World → World → Prop} {a0 : Act} {w0 : World} {size : Nat}

theorem mem_deps {o : Oper} {j : Nat} : j ∈ deps md o ↔ ∃ e ∈ o.after, Region.binds md e = true ∧ e.on = j := by
  unfold deps
  simp only [List.mem_map, List.mem_filter, Array.mem_toList_iff]
  exact ⟨fun ⟨e, ⟨h1, h2⟩, h3⟩ => ⟨e, h1, h2, h3⟩, fun ⟨e, h1, h2, h3⟩ => ⟨e, ⟨h1, h2⟩, h3⟩⟩

theorem St.slot (hok : Ok md ops size) (hs : size = a0.tmps.size) {listed : Array Bool} {vs : Nat → Value} {a : Act} {W : World} (st : St md ops V R a0 w0 listed vs a W) {i : Nat} {o : Oper} (ho : ops[i]? = some o) (hun : listed.getD i false = false) (hdep : ∀ k ∈ deps md o, listed.getD k false = true)
    {t : Tmp} (ht : t ∈ o.looksAt ops) : a.tmps[t]? = (actOf md ops a0 vs o).tmps[t]? := by
  unfold actOf
  by_cases h : ∃ j, j ∈ deps md o ∧ dstOf ops j = some t
  · obtain ⟨j, hj, hd⟩ := h
    have hlt : t < a0.tmps.size := by
      have hjl := dst_lt hd
      rw [← hs]
      refine hok.inn j _ t (Array.getElem?_eq_getElem hjl) ?_
      unfold dstOf at hd
      rw [Array.getElem?_eq_getElem hjl] at hd
      exact hd
    rw [foldl_hit vs t j (fun k hk => hok.one j k t hd hk) hd _ a0 hlt hj]
    exact st.hit j t hd (hdep j hj)
  · rw [foldl_other vs t _ a0 fun j hj hd => h ⟨j, hj, hd⟩]
    refine st.other t fun j hd => ?_
    rcases hok.look i o ho t ht j hd with rfl | hj | ⟨oj, hoj, hij⟩
    · exact hun
    · exact absurd ⟨j, hj, hd⟩ h
    · cases hl : listed.getD j false with
      | false => rfl
      | true =>
        have := st.down j oj hoj hl i hij
        rw [hun] at this
        cases this

theorem St.exec (hok : Ok md ops size) (hs : size = a0.tmps.size) {listed : Array Bool} {vs : Nat → Value} {a : Act} {W : World} (st : St md ops V R a0 w0 listed vs a W) {i : Nat} {o : Oper} (ho : ops[i]? = some o) (hun : listed.getD i false = false) (hdep : ∀ k ∈ deps md o, listed.getD k false = true) :
    execOp a.eval o = execOp (actOf md ops a0 vs o).eval o := by
  refine execOp_congr o (fun cs b => hok.sel i o cs b ho) fun x hx => ?_
  cases x with
  | tmp t =>
    have := st.slot hok hs ho hun hdep (t := t) (List.mem_append_left _ (List.mem_filterMap.2 ⟨.tmp t, by simpa using hx, rfl⟩))
    simp only [Act.eval, Array.getD_eq_getD_getElem?, this]
  | _ => rfl
theorem St.wanted (hok : Ok md ops size) (hs : size = a0.tmps.size) {listed : Array Bool} {vs : Nat → Value} {a : Act} {W : World} (st : St md ops V R a0 w0 listed vs a W) {i : Nat} {o : Oper} (ho : ops[i]? = some o) (hun : listed.getD i false = false) (hdep : ∀ k ∈ deps md o, listed.getD k false = true) :
    Region.wanted o (yielded ops a.tmps) = Region.wanted o (yielded ops (actOf md ops a0 vs o).tmps) := by
  unfold Region.wanted
  cases hg : o.guard with
  | none => rfl
  | some gw =>
    obtain ⟨g, want⟩ := gw
    have hy : yielded ops a.tmps g = yielded ops (actOf md ops a0 vs o).tmps g := by
      unfold yielded
      cases ht : (ops[g]?).bind (·.dst) with
      | none => rfl
      | some t =>
        have := st.slot hok hs ho hun hdep (t := t) (by simp [Oper.looksAt, hg, ht])
        simp only [Option.bind_some, this]
    simp only [hy]

theorem St.put (hok : Ok md ops size) (hs : size = a0.tmps.size) (hp : ∀ W W', R W W' → ∀ j u, V j u W → V j u W') (htr : ∀ a b c, R a b → R b c → R a c) {listed : Array Bool} {vs : Nat → Value} {a : Act} {W W' : World} (st : St md ops V R a0 w0 listed vs a W) {i : Nat} {o : Oper} (ho : ops[i]? = some o) (hun : listed.getD i false = false) (hdep : ∀ k ∈ deps md o, listed.getD k false = true)
    {v : Value} (hv : V i v W') (hr : R W W') : St md ops V R a0 w0 (listed.setIfInBounds i true) (fun j => if j = i then v else vs j) (a.put o.dst v) W' := by
  have hil : i < listed.size := by rw [st.len]; exact (Array.getElem?_eq_some_iff.1 ho).1
  have hdi : dstOf ops i = o.dst := by unfold dstOf; rw [ho]; rfl
  have hli : (listed.setIfInBounds i true).getD i false = true := by simp [hil]
  have hlj : ∀ j, j ≠ i → (listed.setIfInBounds i true).getD j false = listed.getD j false := fun j hj => getD_set_ne false (Ne.symm hj)
  refine ⟨?_, ?_, ?_, ?_, ?_, htr _ _ _ st.rel hr, ?_, by simpa using st.len⟩
  · rw [← st.defers]; cases o.dst <;> rfl
  · rw [← st.size]; cases o.dst <;> simp [Act.put]
  · intro t ht
    have hne : o.dst ≠ some t := fun e => by
      have := ht i (by rw [hdi]; exact e)
      rw [hli] at this
      cases this
    have h1 : (a.put o.dst v).tmps[t]? = a.tmps[t]? := by
      cases hd : o.dst with
      | none => rfl
      | some d =>
        have : d ≠ t := fun e => hne (by rw [hd, e])
        simp [Act.put, Array.getElem?_setIfInBounds_ne this]
    rw [h1]
    refine st.other t fun j hj => ?_
    have hji : j ≠ i := fun e => by subst e; exact hne (by rw [← hdi]; exact hj)
    rw [← hlj j hji]
    exact ht j hj
  · intro j t hd hl
    by_cases hji : j = i
    · subst hji
      rw [if_pos rfl]
      rw [hdi] at hd
      have hlt : t < a.tmps.size := by rw [st.size, ← hs]; exact hok.inn j o t ho hd
      rw [hd]
      simp [Act.put, hlt]
    · rw [if_neg hji]
      rw [hlj j hji] at hl
      have h1 : (a.put o.dst v).tmps[t]? = a.tmps[t]? := by
        cases hdo : o.dst with
        | none => rfl
        | some d =>
          have : d ≠ t := fun e => hji (hok.one i j t (by rw [hdi, hdo, e]) hd)
          simp [Act.put, Array.getElem?_setIfInBounds_ne this]
      rw [h1]
      exact st.hit j t hd hl
  · intro j hl
    by_cases hji : j = i
    · subst hji
      rw [if_pos rfl]
      exact hv
    · rw [if_neg hji]
      rw [hlj j hji] at hl
      exact hp W W' hr j _ (st.val j hl)
  · intro j oj hoj hl k hk
    by_cases hki : k = i
    · subst hki; exact hli
    · rw [hlj k hki]
      by_cases hji : j = i
      · subst hji
        rw [ho] at hoj
        cases hoj
        exact hdep k hk
      · rw [hlj j hji] at hl
        exact st.down j oj hoj hl k hk

theorem act_ext {a b : Act} (h1 : a.defers = b.defers) (h2 : a.tmps.size = b.tmps.size) (h3 : ∀ t : Nat, a.tmps[t]? = b.tmps[t]?) : a = b := by
  cases a
  cases b
  simp only at h1 h2 h3
  subst h1
  congr
  exact Array.ext_getElem? fun i => h3 i

theorem St.all (hok : Ok md ops size) (hs : size = a0.tmps.size) {listed : Array Bool} {vs : Nat → Value} {a : Act} {W : World} (st : St md ops V R a0 w0 listed vs a W) (hall : ∀ j, j < ops.size → listed.getD j false = true) : a = fill ops a0 vs := by
  refine act_ext ?_ ?_ fun t => ?_
  · unfold fill; rw [foldl_defers]; exact st.defers
  · unfold fill; rw [foldl_size]; exact st.size
  · unfold fill
    by_cases h : ∃ j, dstOf ops j = some t
    · obtain ⟨j, hd⟩ := h
      have hjl := dst_lt hd
      have hlt : t < a0.tmps.size := by
        rw [← hs]
        refine hok.inn j _ t (Array.getElem?_eq_getElem hjl) ?_
        unfold dstOf at hd
        rw [Array.getElem?_eq_getElem hjl] at hd
        exact hd
      rw [foldl_hit vs t j (fun k hk => hok.one j k t hd hk) hd _ a0 hlt (List.mem_range.2 hjl)]
      exact st.hit j t hd (hall j hjl)
    · rw [foldl_other vs t _ a0 fun j _ hd => h ⟨j, hd⟩]
      exact st.other t fun j hd => absurd ⟨j, hd⟩ h

theorem ready_nil (hok : Ok md ops size) {listed : Array Bool} (hl : listed.size = ops.size) (h : Region.ready md ops listed = []) : ∀ j, j < ops.size → listed.getD j false = true := by
  intro j
  induction j using Nat.strongRecOn with
  | _ j ih =>
    intro hj
    cases hd : listed.getD j false with
    | true => rfl
    | false =>
      exfalso
      have hm : j ∈ Region.ready md ops listed := by
        rw [mem_ready]
        refine ⟨?_, _, Array.getElem?_eq_getElem hj, fun e he hb => ?_⟩
        · have hjl : j < listed.size := by omega
          simp [hjl] at hd ⊢
          exact hd
        · have hlt := hok.back j _ (Array.getElem?_eq_getElem hj) e.on (mem_deps.2 ⟨e, he, hb, rfl⟩)
          exact ih e.on hlt (by omega)
      rw [h] at hm
      cases hm

theorem count_step {listed : Array Bool} {i : Nat} (h : listed.getD i true = false) : (listed.setIfInBounds i true).toList.count false + 1 = listed.toList.count false := by
  have hi : i < listed.size := by
    rcases Nat.lt_or_ge i listed.size with h' | h'
    · exact h'
    · simp [Array.getElem?_eq_none h'] at h
  have hv : listed.toList[i]'(by simpa using hi) = false := by
    simp [hi] at h
    simpa using h
  rw [Array.toList_setIfInBounds, List.count_set (by simpa using hi), hv]
  have : 0 < listed.toList.count false := List.count_pos_iff.2 (hv ▸ List.getElem_mem _)
  rw [if_pos (by decide), if_neg (by decide)]
  omega

theorem wpAny_of (hok : Ok md ops size) (hs : size = a0.tmps.size) (hp : ∀ W W', R W W' → ∀ j u, V j u W → V j u W') (htr : ∀ a b c, R a b → R b c → R a c)
    (hstep : ∀ i o, ops[i]? = some o → ∀ (vs : Nat → Value) W, R w0 W → (∀ k ∈ deps md o, V k (vs k) W) →
      if Region.wanted o (yielded ops (actOf md ops a0 vs o).tmps) = true then ∀ K : Value → World → Prop, (∀ v W', R W W' → V i v W' → K v W') → givesW P o (actOf md ops a0 vs o) W K else V i undef W ∧ R W W)
    (hfin : ∀ (vs : Nat → Value) W, R w0 W → (∀ i, i < ops.size → V i (vs i) W) → Q .normal (fill ops a0 vs) W) :
    ∀ (fuel : Nat) (listed : Array Bool) (vs : Nat → Value) (a : Act) (W : World), listed.toList.count false ≤ fuel → St md ops V R a0 w0 listed vs a W → wpAny P md ops Q fuel listed a W := by
  have fin : ∀ (listed : Array Bool) (vs : Nat → Value) (a : Act) (W : World), St md ops V R a0 w0 listed vs a W → (∀ j, j < ops.size → listed.getD j false = true) → Q .normal a W := by
    intro listed vs a W st hall
    rw [st.all hok hs hall]
    exact hfin vs W st.rel fun i hi => st.val i (hall i hi)
  intro fuel
  induction fuel with
  | zero =>
    intro listed vs a W hc st
    have hall : ∀ j, j < ops.size → listed.getD j false = true := by
      intro j hj
      have h0 : listed.toList.count false = 0 := by omega
      have hjl : j < listed.size := by rw [st.len]; exact hj
      cases hd : listed.getD j false with
      | true => rfl
      | false =>
        exfalso
        refine List.count_eq_zero.1 h0 ?_
        have : listed[j] = false := by simpa [hjl] using hd
        rw [← this]
        simp
    refine ⟨?_, fin listed vs a W st hall⟩
    cases hr : Region.ready md ops listed with
    | nil => rfl
    | cons j js =>
      exfalso
      have hm : j ∈ Region.ready md ops listed := by rw [hr]; simp
      obtain ⟨h1, o, ho, _⟩ := mem_ready.1 hm
      have hj := (Array.getElem?_eq_some_iff.1 ho).1
      have h2 := hall j hj
      have hjl : j < listed.size := by rw [st.len]; exact hj
      simp [hjl] at h1 h2
      rw [h1] at h2
      cases h2
  | succ fuel ih =>
    intro listed vs a W hc st
    refine ⟨fun h => fin listed vs a W st (ready_nil hok st.len h), fun i hi => ?_⟩
    obtain ⟨h1, o, ho, h2⟩ := mem_ready.1 hi
    have hil : i < listed.size := by rw [st.len]; exact (Array.getElem?_eq_some_iff.1 ho).1
    have hun : listed.getD i false = false := by simp [hil] at h1 ⊢; exact h1
    have hdep : ∀ k ∈ deps md o, listed.getD k false = true := by
      intro k hk
      obtain ⟨e, he, hb, rfl⟩ := mem_deps.1 hk
      exact h2 e he hb
    have hst := hstep i o ho vs W st.rel fun k hk => st.val k (hdep k hk)
    have hcnt := count_step h1
    have next : ∀ v W', V i v W' → R W W' → wpAny P md ops Q fuel (listed.setIfInBounds i true) (a.put o.dst v) W' := fun v W' hv hr =>
      ih _ _ _ _ (by omega) (st.put hok hs hp htr ho hun hdep hv hr)
    unfold wpOp
    simp only [ho]
    rw [st.wanted hok hs ho hun hdep]
    split
    · rename_i hw
      rw [if_pos hw] at hst
      exact .inl (givesW_wp (st.exec hok hs ho hun hdep) (hst (fun v w' => wpAny P md ops Q fuel (listed.setIfInBounds i true) (a.put o.dst v) w') fun v W' hr hv => next v W' hv hr))
    · rename_i hw
      rw [if_neg hw] at hst
      exact next undef W hst.1 hst.2
end

/-- One goal an operation. -/
def steps (F : Nat → Oper → Prop) : Nat → List Oper → Prop
  | _, [] => True
  | i, o :: os => F i o ∧ steps F (i + 1) os
theorem steps_get {F : Nat → Oper → Prop} (l : List Oper) : ∀ {n : Nat}, steps F n l → ∀ (i : Nat) (o : Oper), l[i]? = some o → F (n + i) o := by
  induction l with
  | nil => intro n _ i o ho; simp at ho
  | cons x l ih =>
    intro n h i o ho
    cases i with
    | zero =>
      rw [List.getElem?_cons_zero] at ho
      cases ho
      exact h.1
    | succ i =>
      rw [List.getElem?_cons_succ] at ho
      have := ih h.2 i o ho
      rw [show n + 1 + i = n + (i + 1) by omega] at this
      exact this

/-- What is owed of one operation. -/
def Step (P : Program) (l : List Oper) (V : Nat → Value → World → Prop) (R : World → World → Prop) (a : Act) (w0 : World) (i : Nat) (o : Oper) : Prop :=
  ∀ (vs : Nat → Value) W, R w0 W → (∀ k ∈ deps .any o, V k (vs k) W) →
    if Region.wanted o (yielded l.toArray (actOf .any l.toArray a vs o).tmps) = true then ∀ K : Value → World → Prop, (∀ v W', R W W' → V i v W' → K v W') → givesW P o (actOf .any l.toArray a vs o) W K else V i undef W
theorem Step.plain {P : Program} {l : List Oper} {V : Nat → Value → World → Prop} {R : World → World → Prop} {a : Act} {w0 : World} {i : Nat} {o : Oper} (hg : o.guard = none)
    (h : ∀ (vs : Nat → Value) W, R w0 W → (∀ k ∈ deps .any o, V k (vs k) W) → ∀ K : Value → World → Prop, (∀ v W', R W W' → V i v W' → K v W') → givesW P o (actOf .any l.toArray a vs o) W K) : Step P l V R a w0 i o := by
  intro vs W hr hk
  rw [if_pos (by simp [Region.wanted, hg])]
  exact h vs W hr hk

/-- THE RULE. -/
theorem wp_region_mono {P : Program} {Q : Exit → Act → World → Prop} {id : Nat} {a : Act} {w : World} {l : List Oper} (V : Nat → Value → World → Prop) (R : World → World → Prop) (hm : P.follows .mixedOrders = true) (hB : okB .any l.toArray a.tmps.size = true)
    (hr : ∀ W, R W W) (hp : ∀ W W', R W W' → ∀ j u, V j u W → V j u W') (htr : ∀ a b c, R a b → R b c → R a c)
    (hstep : steps (Step P l V R a w.drew) 0 l)
    (hfin : ∀ (vs : Nat → Value) W, R w.drew W → (∀ i, i < l.length → V i (vs i) W) → Q .normal (fill l.toArray a vs) W) : (Code.region id l.toArray true).wp P Q a w := by
  have hst : ∀ i o, l.toArray[i]? = some o → ∀ (vs : Nat → Value) W, R w.drew W → (∀ k ∈ deps .any o, V k (vs k) W) →
      if Region.wanted o (yielded l.toArray (actOf .any l.toArray a vs o).tmps) = true then ∀ K : Value → World → Prop, (∀ v W', R W W' → V i v W' → K v W') → givesW P o (actOf .any l.toArray a vs o) W K else V i undef W ∧ R W W := by
    intro i o ho vs W h1 h2
    have := steps_get l hstep i o (by simpa using ho) vs W h1 h2
    rw [Nat.zero_add] at this
    split
    · rename_i hw
      rw [if_pos hw] at this
      exact this
    · rename_i hw
      rw [if_neg hw] at this
      exact ⟨this, hr W⟩
  refine wp_region_any hm (wpAny_of (V := V) (R := R) (a0 := a) (w0 := w.drew) (size := a.tmps.size) (ok_of hB) rfl hp htr hst (fun vs W h1 h2 => hfin vs W h1 fun i hi => h2 i (by simpa using hi)) _ _ (fun _ => undef) _ _ ?_ ?_)
  · rw [Array.toList_replicate]
    simp
  · refine ⟨rfl, rfl, fun _ _ => rfl, fun j t hd hl => ?_, fun j hl => ?_, hr _, fun j o ho hl => ?_, by simp⟩
    · have := dst_lt hd
      simp only [List.size_toArray] at this
      simp [this] at hl
    · rcases Nat.lt_or_ge j l.length with h | h
      · simp [h] at hl
      · simp [h] at hl
    · have := (Array.getElem?_eq_some_iff.1 ho).1
      simp only [List.size_toArray] at this
      simp [this] at hl
end Mono
end Go.Proofs.YtieahneoofdneaaDoor
