/-
  The plain side of the names layer: what a table of names and comparisons is, and what each call makes of it. No program stands here.
-/
namespace Go.Proofs.YthjhjifihhhphaaDoor
set_option linter.unusedVariables false
set_option linter.unusedSimpArgs false

/-- A table: the names, and the comparisons, each numbered by its place. -/
structure Tab where
  names : List ByteArray
  rels : List (Int × Int × Int)

/-- The place of the first thing in a list that is x. -/
def pos {α : Type} [DecidableEq α] (l : List α) (x : α) : Option Nat := l.findIdx? (fun y => decide (y = x))

theorem pos_lt {α : Type} [DecidableEq α] {l : List α} {x : α} {i : Nat} (h : pos l x = some i) : i < l.length := by
  unfold pos at h
  exact (List.findIdx?_eq_some_iff_findIdx_eq.1 h).1

theorem pos_get {α : Type} [DecidableEq α] {l : List α} {x : α} {i : Nat} (h : pos l x = some i) : l[i]? = some x := by
  have hl := pos_lt h
  unfold pos at h
  have h2 := (List.findIdx?_eq_some_iff_getElem.1 h)
  obtain ⟨h3, h4, _⟩ := h2
  rw [List.getElem?_eq_getElem hl]
  simpa using h4

theorem pos_none {α : Type} [DecidableEq α] {l : List α} {x : α} : pos l x = none ↔ x ∉ l := by
  unfold pos
  rw [List.findIdx?_eq_none_iff]
  constructor
  · intro h hm
    simpa using h x hm
  · intro h y hy
    simp
    intro e
    exact h (e ▸ hy)

theorem pos_snoc {α : Type} [DecidableEq α] (l : List α) (x y : α) (hx : x ∉ l) : pos (l ++ [x]) y = if y = x then some l.length else pos l y := by
  unfold pos
  rw [List.findIdx?_append]
  by_cases h : y = x
  · subst h
    rw [if_pos rfl]
    have := pos_none.2 hx
    unfold pos at this
    rw [this]
    simp
  · rw [if_neg h]
    cases h2 : List.findIdx? (fun z => decide (z = y)) l with
    | some i => simp
    | none =>
      have : ¬ x = y := fun e => h e.symm
      simp [this]

namespace Tab
/-- Find. -/
def find (t : Tab) (s : ByteArray) : Int × Bool := (((pos t.names s).map (fun n : Nat => (n : Int))).getD 0, (pos t.names s).isSome)

/-- Add: what it answers. -/
def addRes (t : Tab) (s : ByteArray) : Int × Int :=
  if 60 < s.size then (0, 21) else
  match pos t.names s with
  | some i => ((i : Int), 0)
  | none => if 5000 ≤ t.names.length then (0, 20) else ((t.names.length : Int), 0)

/-- Add: what becomes of the table. -/
def add (t : Tab) (s : ByteArray) : Tab :=
  if 60 < s.size then t else
  match pos t.names s with
  | some _ => t
  | none => if 5000 ≤ t.names.length then t else { t with names := t.names ++ [s] }

/-- Is that a name's number? -/
def known (t : Tab) (i : Int) : Bool := decide (0 ≤ i) && decide (i < t.names.length)

/-- Name. -/
def name (t : Tab) (i : Int) : ByteArray × Int := if t.known i then (t.names.getD i.toNat ByteArray.empty, 0) else (ByteArray.empty, 22)

/-- Relate: what it answers. -/
def relRes (t : Tab) (a op b : Int) : Int × Int :=
  if t.known a && t.known b then
    if op < 1 ∨ 7 < op then (0, 23) else
    match pos t.rels (a, op, b) with
    | some i => ((i : Int), 0)
    | none => if 5000 ≤ t.rels.length then (0, 20) else ((t.rels.length : Int), 0)
  else (0, 22)

/-- Relate: what becomes of the table. -/
def rel (t : Tab) (a op b : Int) : Tab :=
  if t.known a && t.known b then
    if op < 1 ∨ 7 < op then t else
    match pos t.rels (a, op, b) with
    | some _ => t
    | none => if 5000 ≤ t.rels.length then t else { t with rels := t.rels ++ [(a, op, b)] }
  else t

/-- Relation. -/
def relation (t : Tab) (i : Int) : (Int × Int × Int) × Int :=
  if 0 ≤ i ∧ i < t.rels.length then (t.rels.getD i.toNat (0, 0, 0), 0) else ((0, 0, 0), 22)

/-- What holds of each table that the calls make. -/
structure Ok (t : Tab) : Prop where
  nodup : t.names.Nodup
  many : t.names.length ≤ 5000
  rnodup : t.rels.Nodup
  rmany : t.rels.length ≤ 5000
  wf : ∀ r ∈ t.rels, 0 ≤ r.1 ∧ r.1 < 5000 ∧ 1 ≤ r.2.1 ∧ r.2.1 ≤ 7 ∧ 0 ≤ r.2.2 ∧ r.2.2 < 5000
  short : ∀ s ∈ t.names, s.size ≤ 60

def new : Tab := { names := [ByteArray.empty], rels := [] }

theorem new_ok : new.Ok := ⟨by simp [new], by simp [new], by simp [new], by simp [new], by simp [new], by intro s hs; simp [new] at hs; subst hs; decide⟩

theorem add_ok {t : Tab} (h : t.Ok) (s : ByteArray) : (t.add s).Ok := by
  unfold add
  split
  · exact h
  · rename_i hs
    split
    · exact h
    · rename_i hp
      split
      · exact h
      · rename_i hl
        refine ⟨?_, ?_, h.rnodup, h.rmany, h.wf, ?_⟩
        · rw [List.nodup_append]
          refine ⟨h.nodup, by simp, ?_⟩
          intro a ha b hb e
          simp at hb
          subst hb
          subst e
          exact pos_none.1 hp ha
        · simp; omega
        · intro x hx
          simp at hx
          rcases hx with hx | rfl
          · exact h.short x hx
          · omega

theorem known_iff {t : Tab} {i : Int} : t.known i = true ↔ 0 ≤ i ∧ i < t.names.length := by simp [known]

theorem rel_ok {t : Tab} (h : t.Ok) (a op b : Int) : (t.rel a op b).Ok := by
  unfold rel
  split
  · rename_i hk
    split
    · exact h
    · rename_i ho
      split
      · exact h
      · rename_i hp
        split
        · exact h
        · rename_i hl
          simp only [Bool.and_eq_true, known_iff] at hk
          have := h.many
          refine ⟨h.nodup, h.many, ?_, ?_, ?_, h.short⟩
          · rw [List.nodup_append]
            refine ⟨h.rnodup, by simp, ?_⟩
            intro x hx y hy e
            simp at hy
            subst hy
            subst e
            exact pos_none.1 hp hx
          · simp; omega
          · intro r hr
            simp at hr
            rcases hr with hr | rfl
            · exact h.wf r hr
            · simp; omega
  · exact h

/-! ### what follows -/
theorem pos_append {α : Type} [DecidableEq α] {l m : List α} {x : α} {i : Nat} (h : pos l x = some i) : pos (l ++ m) x = some i := by
  unfold pos at h ⊢
  rw [List.findIdx?_append, h]
  rfl

theorem pos_unique {α : Type} [DecidableEq α] {l : List α} (hn : l.Nodup) {x : α} {i : Nat} (h : l[i]? = some x) : pos l x = some i := by
  cases hp : pos l x with
  | none => exact absurd (List.mem_of_getElem? h) (pos_none.1 hp)
  | some j =>
    have hj := pos_get hp
    have hjl := pos_lt hp
    have hil : i < l.length := (List.getElem?_eq_some_iff.1 h).1
    rw [List.getElem?_eq_getElem hil] at h
    rw [List.getElem?_eq_getElem hjl] at hj
    have e : l[i] = l[j] := by rw [Option.some.inj h, Option.some.inj hj]
    rw [(List.getElem_inj hn).1 e]

theorem rel_names (t : Tab) (x op y : Int) : (t.rel x op y).names = t.names := by
  unfold rel
  split
  · split
    · rfl
    · split
      · rfl
      · split <;> rfl
  · rfl

theorem add_rels (t : Tab) (s : ByteArray) : (t.add s).rels = t.rels := by
  unfold add
  split
  · rfl
  · split
    · rfl
    · split <;> rfl

/-- What Relate answered without an error is the comparison's number, behind it. -/
theorem rel_pos {t : Tab} (h : t.Ok) {x op y : Int} (h0 : (t.relRes x op y).2 = 0) : ∃ c : Nat, (t.relRes x op y).1 = c ∧ pos (t.rel x op y).rels (x, op, y) = some c := by
  unfold relRes rel at *
  cases hk : t.known x && t.known y with
  | false => simp [hk] at h0
  | true =>
    simp only [hk, if_true] at h0 ⊢
    by_cases ho : op < 1 ∨ 7 < op
    · simp [ho] at h0
    · simp only [ho, if_false] at h0 ⊢
      cases hp : pos t.rels (x, op, y) with
      | some i => exact ⟨i, by simp, by simp [hp]⟩
      | none =>
        simp only [hp] at h0 ⊢
        by_cases hf : 5000 ≤ t.rels.length
        · simp [hf] at h0
        · simp only [hf, if_false]
          exact ⟨t.rels.length, by simp, by rw [pos_snoc _ _ _ (pos_none.1 hp), if_pos rfl]⟩

theorem rel_keeps {t : Tab} {r : Int × Int × Int} {i : Nat} (h : pos t.rels r = some i) (x op y : Int) : pos (t.rel x op y).rels r = some i := by
  unfold rel
  split
  · split
    · exact h
    · split
      · exact h
      · split
        · exact h
        · exact pos_append h
  · exact h

theorem relation_of_pos {t : Tab} {r : Int × Int × Int} {i : Nat} (h : pos t.rels r = some i) : t.relation i = (r, 0) := by
  have h1 := pos_lt h
  have h2 := pos_get h
  unfold relation
  rw [if_pos ⟨by omega, by omega⟩]
  simp [List.getD, h2]

theorem relation_none {t : Tab} {i : Int} (h : ¬ (0 ≤ i ∧ i < t.rels.length)) : t.relation i = ((0, 0, 0), 22) := by
  unfold relation
  rw [if_neg h]

theorem add_keeps {t : Tab} {s : ByteArray} {i : Nat} (h : pos t.names s = some i) (x : ByteArray) : pos (t.add x).names s = some i := by
  unfold add
  split
  · exact h
  · split
    · exact h
    · split
      · exact h
      · exact pos_append h

theorem add_pos {t : Tab} {s : ByteArray} (h0 : (t.addRes s).2 = 0) : ∃ c : Nat, (t.addRes s).1 = c ∧ pos (t.add s).names s = some c := by
  unfold addRes add at *
  by_cases h1 : 60 < s.size
  · simp [h1] at h0
  · simp only [h1, if_false] at h0 ⊢
    cases hp : pos t.names s with
    | some i => exact ⟨i, by simp, by simp [hp]⟩
    | none =>
      simp only [hp] at h0 ⊢
      by_cases hf : 5000 ≤ t.names.length
      · simp [hf] at h0
      · simp only [hf, if_false]
        exact ⟨t.names.length, by simp, by rw [pos_snoc _ _ _ (pos_none.1 hp), if_pos rfl]⟩

theorem name_of_pos {t : Tab} {s : ByteArray} {i : Nat} (h : pos t.names s = some i) : t.name i = (s, 0) := by
  have h1 := pos_lt h
  have h2 := pos_get h
  unfold name
  rw [if_pos (known_iff.2 ⟨by omega, by omega⟩)]
  simp [List.getD, h2]

theorem find_of_pos {t : Tab} {s : ByteArray} {i : Nat} (h : pos t.names s = some i) : t.find s = ((i : Int), true) := by
  simp [find, h]

theorem addRes_wf {t : Tab} (h : t.Ok) (s : ByteArray) : 0 ≤ (t.addRes s).1 ∧ (t.addRes s).1 ≤ 5000 ∧ 0 ≤ (t.addRes s).2 ∧ (t.addRes s).2 ≤ 21 := by
  unfold addRes
  split
  · simp
  · split
    · rename_i i hp
      have := pos_lt hp
      have := h.many
      simp; omega
    · split
      · simp
      · have := h.many
        simp; omega
end Tab
end Go.Proofs.YthjhjifihhhphaaDoor
