/-
  The solver in memory: its blocks, each with its part; steps that change some parts and leave the others. Helper text; the conditions are those typed.
-/
import Derived.Test.YtkeagjphddcjeaaMem
import Derived.Test.YtkeagjphddcjeaaMapAt
import Derived.Test.YtkeagjphddcjeaaSatCount
import Derived.Test.YtkeagjphddcjeaaChecked
namespace Go.Proofs.Ytkeagjphddcjeaa
set_option linter.unusedVariables false
set_option linter.unusedSimpArgs false
open Go.RowKit Go.Maps Sat

/-- What a block is to the solver. -/
inductive Role where
  | free | box | crow | clause (i : Nat) | map | wlist (l : Int) | vals | levs | whys | trow | mrow | kept

/-- From one world to the next: only blocks of the parts T change. -/
structure Step (T : Role → Prop) (role : Nat → Role) (w : World) (role' : Nat → Role) (w' : World) : Prop where
  os : w'.os = w.os
  tape : w'.tape = w.tape
  output : w'.output = w.output
  size : w.heap.size ≤ w'.heap.size
  same : ∀ b, b < w.heap.size → ¬ T (role b) → w'.heap[b]? = w.heap[b]? ∧ role' b = role b
  dom : ∀ b, role' b ≠ .free → b < w'.heap.size ∧ (role b ≠ .free ∨ w.heap.size ≤ b)
theorem Step.trans {T T2 : Role → Prop} {r0 r1 r2 : Nat → Role} {w0 w1 w2 : World} (h : Step T r0 w0 r1 w1) (k : Step T2 r1 w1 r2 w2) : Step (fun r => T r ∨ T2 r) r0 w0 r2 w2 :=
  ⟨k.os.trans h.os, k.tape.trans h.tape, k.output.trans h.output, Nat.le_trans h.size k.size, fun b hb hr => by
    obtain ⟨h1, h2⟩ := h.same b hb (fun e => hr (.inl e))
    obtain ⟨k1, k2⟩ := k.same b (Nat.lt_of_lt_of_le hb h.size) (fun e => hr (.inr (h2 ▸ e)))
    exact ⟨k1.trans h1, k2.trans h2⟩, fun b hr => by
    obtain ⟨k1, k2⟩ := k.dom b hr
    refine ⟨k1, ?_⟩
    rcases k2 with k2 | k2
    · exact (h.dom b k2).2
    · exact .inr (Nat.le_trans h.size k2)⟩
theorem Step.mono {T T2 : Role → Prop} {r0 r1 : Nat → Role} {w0 w1 : World} (h : Step T r0 w0 r1 w1) (hT : ∀ r, T r → T2 r) : Step T2 r0 w0 r1 w1 :=
  ⟨h.os, h.tape, h.output, h.size, fun b hb hr => h.same b hb (fun e => hr (hT _ e)), h.dom⟩
/-- Only what is the solver's changes. -/
abbrev Moved (role : Nat → Role) (w : World) (role' : Nat → Role) (w' : World) : Prop := Step (fun r => r ≠ .free) role w role' w'
theorem Moved.trans {r0 r1 r2 : Nat → Role} {w0 w1 w2 : World} (h : Moved r0 w0 r1 w1) (k : Moved r1 w1 r2 w2) : Moved r0 w0 r2 w2 := (Step.trans h k).mono fun r h => h.elim (fun h => h) (fun h => h)
theorem Moved.block {r0 r1 : Nat → Role} {w0 w1 : World} (h : Moved r0 w0 r1 w1) {b : Nat} (hb : b < w0.heap.size) (hr : r0 b = .free) : w1.heap[b]? = w0.heap[b]? ∧ r1 b = .free := by
  obtain ⟨h1, h2⟩ := h.same b hb (fun e => e hr)
  exact ⟨h1, h2.trans hr⟩
theorem Moved.out {B : Nat} {w w1 w2 : World} {r1 r2 : Nat → Role} (hm : Moved r1 w1 r2 w2) (hb : Below B w w1) (hB : B ≤ w1.heap.size) (hf : ∀ b, b < B → r1 b = .free) : Below B w w2 ∧ ∀ b, b < B → r2 b = .free :=
  ⟨⟨hm.os.trans hb.os, hm.tape.trans hb.tape, hm.output.trans hb.output, Nat.le_trans hb.size hm.size, fun b h => (hm.block (Nat.lt_of_lt_of_le h hB) (hf b h)).1.trans (hb.block b h)⟩, fun b h => (hm.block (Nat.lt_of_lt_of_le h hB) (hf b h)).2⟩
/-- The roles lie below. -/
def Inn (role : Nat → Role) (w : World) : Prop := ∀ b, role b ≠ .free → b < w.heap.size
theorem Inn.free {role : Nat → Role} {w : World} (h : Inn role w) {b : Nat} (hb : w.heap.size ≤ b) : role b = .free := by
  by_cases hr : role b = .free
  · exact hr
  · exact absurd (h b hr) (by omega)
theorem Step.inn {T : Role → Prop} {role role' : Nat → Role} {w w' : World} (hs : Step T role w role' w') : Inn role' w' := fun b hr => (hs.dom b hr).1
theorem Step.of_below {role : Nat → Role} {w w' : World} (hi : Inn role w) (h : Below w.heap.size w w') : Step (fun _ => False) role w role w' :=
  ⟨h.os, h.tape, h.output, h.size, fun b hb _ => ⟨h.block b hb, rfl⟩, fun b hr => ⟨Nat.lt_of_lt_of_le (hi b hr) h.size, .inl hr⟩⟩
theorem Moved.of_below {role : Nat → Role} {w w' : World} (hi : Inn role w) (h : Below w.heap.size w w') : Moved role w role w' := (Step.of_below hi h).mono fun _ h => h.elim
theorem Step.of_grown {role : Nat → Role} {w w' : World} (hi : Inn role w) {m : Nat} (hg : w.grownBy w' (some m)) : Step (fun r => r = role m) role w role w' :=
  ⟨hg.os, hg.tape, hg.output, hg.size, fun b hb hr => ⟨hg.block b hb (fun e => by cases e; exact hr rfl), rfl⟩, fun b hr => ⟨Nat.lt_of_lt_of_le (hi b hr) hg.size, .inl hr⟩⟩
theorem Step.of_set {role : Nat → Role} {w : World} (hi : Inn role w) (m o : Nat) (v : Value) : Step (fun r => r = role m) role w role (w.setCell ⟨m, o, none⟩ v) := by
  have hb : Below m w (w.setCell ⟨m, o, none⟩ v) := below_sc (Below.refl _ _) (Nat.le_refl _) o v
  exact ⟨hb.os, hb.tape, hb.output, hb.size, fun b hb hr => ⟨set_other _ (fun e => by subst e; exact hr rfl), rfl⟩, fun b hr => ⟨by rw [set_size]; exact hi b hr, .inl hr⟩⟩
/-- A row grows. -/
theorem Step.of_row {role : Nat → Role} {w w' : World} (hi : Inn role w) {v : Value} {R : Role} (hR : R ≠ .free) (hv : ∀ b, v.ownBlock = some b → role b = R) (hg : w.grownBy w' v.ownBlock) {g : Nat} (hat : v.ownBlock = some g ∨ w.heap.size ≤ g) (hlt : g < w'.heap.size) :
    Step (fun r => r = R) role w (fun b => if b = g then R else role b) w' :=
  ⟨hg.os, hg.tape, hg.output, hg.size, fun b hb hr => ⟨hg.block b hb (fun e => hr (hv b e.symm)), if_neg (fun e => by
      subst e
      rcases hat with h1 | h1
      · exact hr (hv b h1)
      · omega)⟩, fun b hr => by
    by_cases e : b = g
    · subst e
      refine ⟨hlt, ?_⟩
      rcases hat with h1 | h1
      · left; rw [hv b h1]; exact hR
      · exact .inr h1
    · have hr' : role b ≠ .free := by simpa only [e, if_false] using hr
      exact ⟨Nat.lt_of_lt_of_le (hi b hr') hg.size, .inl hr'⟩⟩
/-- A free block becomes a part. -/
theorem Step.of_take {role : Nat → Role} {w : World} (hi : Inn role w) {g : Nat} (hg : g < w.heap.size) (hf : role g = .free) {B : Nat} (R : Role) (hx : w.heap.size ≤ g ∨ True) : Inn (fun b => if b = g then R else role b) w := fun b hr => by
  by_cases e : b = g
  · subst e; exact hg
  · have hr' : role b ≠ .free := by simpa only [e, if_false] using hr
    exact hi b hr'

def intsI (l : List Int) : List Value := l.map fun (i : Int) => .int .i64 i
theorem intsI_snoc (l : List Int) (i : Int) : intsI (l ++ [i]) = intsI l ++ [.int .i64 i] := by
  unfold intsI
  simp
def natsI (l : List Nat) : List Value := l.map fun (i : Nat) => .int .i64 (i : Int)
/-- A row, or one of no room that lies where another one does. -/
def RowZ (w : World) (B : Nat) (v : Value) (xs : List Value) : Prop := w.ownsRow B 3 1 v xs.length xs ∨ (∃ a, v = .slice (some a) 0 0 ∧ xs = [])
/-- The value of a variable. -/
def valOf (tr : List En) (u : Nat) : Int := match tr.find? fun e => decide (vr e.lit = u) with
  | some e => if e.lit < 0 then -1 else 1
  | none => 0
def isV (tr : List En) (l : Int) : Int := if l < 0 then -(valOf tr (vr l)) else valOf tr (vr l)
theorem valOf_at {n : Nat} {orig : List Cl} {gs : List Int} {cs : List Cl} {tr : List En} {mk : List Nat} (h : Tr n orig gs cs tr mk) {q : Nat} {e : En} (he : tr[q]? = some e) : valOf tr (vr e.lit) = if e.lit < 0 then -1 else 1 := by
  unfold valOf
  cases hf : tr.find? fun e' => decide (vr e'.lit = vr e.lit) with
  | none =>
    have := List.find?_eq_none.1 hf e (List.mem_of_getElem? he)
    simp at this
  | some e' =>
    have h1 := List.find?_some hf
    have h2 := List.mem_of_find?_eq_some hf
    simp only [decide_eq_true_eq] at h1
    obtain ⟨p, hp⟩ := List.mem_iff_getElem?.1 h2
    have := h.one p q e' e hp he h1
    subst this
    rw [he] at hp
    cases hp
    rfl
theorem valOf_open {tr : List En} {l : Int} (h : Sat.Open tr l) : valOf tr (vr l) = 0 := by
  unfold valOf
  rw [List.find?_eq_none.2]
  intro e he
  simpa using h e he
section
variable {n : Nat} {orig : List Cl} {gs : List Int} {cs : List Cl} {tr : List En} {mk : List Nat}
/-- What 'is' answers says how it stands. -/
theorem isV_cases (h : Tr n orig gs cs tr mk) {l : Int} (hl : Lok n l) : (isV tr l = 1 ∧ ∃ q, At tr q l) ∨ (isV tr l = -1 ∧ ∃ q, At tr q (-l)) ∨ (isV tr l = 0 ∧ Sat.Open tr l) := by
  by_cases ho : Sat.Open tr l
  · refine .inr (.inr ⟨?_, ho⟩)
    unfold isV
    rw [valOf_open ho]
    split <;> rfl
  · have hex : ∃ e ∈ tr, vr e.lit = vr l := by
      by_cases hh : ∃ e ∈ tr, vr e.lit = vr l
      · exact hh
      · exact absurd (fun e he hv => hh ⟨e, he, hv⟩) ho
    obtain ⟨e, he, hv⟩ := hex
    obtain ⟨q, hq⟩ := List.mem_iff_getElem?.1 he
    have hval := valOf_at h hq
    rw [hv] at hval
    have hok := h.ok e he
    rcases vr_eq hok hl hv with h1 | h1
    · refine .inl ⟨?_, q, e, hq, h1⟩
      unfold isV
      rw [hval, h1]
      by_cases h2 : l < 0
      · rw [if_pos h2, if_pos h2]; rfl
      · rw [if_neg h2, if_neg h2]
    · refine .inr (.inl ⟨?_, q, e, hq, h1⟩)
      have h0 := hl.1
      unfold isV
      rw [hval, h1]
      by_cases h2 : l < 0
      · rw [if_pos h2, if_neg (by omega)]
      · rw [if_neg h2, if_pos (by omega)]
theorem isV_lt {tr : List En} {l : Int} : -1 ≤ isV tr l ∧ isV tr l ≤ 1 := by
  unfold isV valOf
  split <;> split <;> (try split) <;> decide
end

/-- The watch map's entries. -/
def woF (wo : Int → Option Value) : Value → Option Value
  | .int .i64 l => wo l
  | _ => none
/-- What 'set' changes. -/
def SetT (r : Role) : Prop := r = .vals ∨ r = .levs ∨ r = .whys ∨ r = .trow ∨ r = .box
/-- The solver at S. -/
structure SolIn (w : World) (B : Nat) (role : Nat → Role) (S M gv gl gr : Nat) (vc vt vm : Value) (head n : Nat) (cv : Nat → Value) (wo : Int → Option Value) (wl : Int → List Nat) (cs : List Cl) (tr : List En) (mk : List Nat) : Prop where
  box : BoxN w S [vc, .map (some M), .slice (some ⟨gv, 0, none⟩) n n, .slice (some ⟨gl, 0, none⟩) n n, .slice (some ⟨gr, 0, none⟩) n n, vt, vm, .int .i64 (head : Int)] 54
  crow : w.ownsRow B 24 1 vc cs.length ((List.range cs.length).map cv)
  clause : ∀ (i : Nat) (c : Cl), cs[i]? = some c → w.ownsRow B 3 1 (cv i) c.length (intsI c)
  watch : MapAt Try.prog 3 w M (2 * n) (woF wo)
  wdom : ∀ l v, wo l = some v → Lok n l
  wlist : ∀ l, RowZ w B ((wo l).getD (.slice none 0 0)) (natsI (wl l))
  vals : BoxF w gv n (fun u => .int .i64 (valOf tr u)) 3
  levs : ∃ f : Nat → Int, BoxF w gl n (fun u => .int .i64 (f u)) 3 ∧ ∀ e ∈ tr, f (vr e.lit) = (e.lev : Int)
  whys : ∃ f : Nat → Int, BoxF w gr n (fun u => .int .i64 (f u)) 3 ∧ ∀ e ∈ tr, f (vr e.lit) = e.why
  trow : w.ownsRow B 3 1 vt tr.length (intsI (tr.map (·.lit)))
  mrow : w.ownsRow B 3 1 vm mk.length (natsI mk)
  rS : role S = .box
  rM : role M = .map
  rv : role gv = .vals
  rl : role gl = .levs
  rr : role gr = .whys
  rc : ∀ g, vc.ownBlock = some g → role g = .crow
  rC : ∀ i g, i < cs.length → (cv i).ownBlock = some g → role g = .clause i
  rW : ∀ l g v, wo l = some v → (∀ a, v ≠ .slice (some a) 0 0) → v.ownBlock = some g → role g = .wlist l
  rt : ∀ g, vt.ownBlock = some g → role g = .trow
  rm : ∀ g, vm.ownBlock = some g → role g = .mrow
  lo : ∀ b, role b ≠ .free → B ≤ b
  hi : Inn role w
end Go.Proofs.Ytkeagjphddcjeaa
