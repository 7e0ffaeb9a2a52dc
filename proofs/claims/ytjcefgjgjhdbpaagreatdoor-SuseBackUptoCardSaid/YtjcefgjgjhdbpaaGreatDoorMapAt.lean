/-
  A map told by a function of its keys, whatever its elements are: a helper text of this seat. It says of a block that it is a map with at most n entries whose entry at each key value v is the value f v. Conditions: none beyond those typed.
-/
import Derived.Maps.OwnSet
import Derived.Maps.AppendAt
import Derived.WalkKit
import Derived.WalkSpells
import Derived.Deep.Draws
import Derived.StillTailTactics
namespace Go.Proofs.YtjcefgjgjhdbpaaGreatDoor
set_option linter.unusedVariables false
set_option linter.unusedSimpArgs false
open Go.RowKit Go.Maps

/-- An element as it stands. -/
def rawE (v : Value) : Option (DataW Value × List MemPlace) := some (.held v, [])

/-- Block b of w is a map of at most n entries; at the key v (a value that reads as a key) it holds f v. -/
def MapAt (P : Program) (k : TypeId) (w : World) (b n : Nat) (f : Value → Option Value) : Prop :=
  ∃ D : DataW Value, w.ownsMap P k rawE b n D ∧ ∀ v kl, keyOf P k v = some kl → has D kl = (f v).isSome ∧ ∀ x, f v = some x → ∀ z, D.atKey kl z = .held x

theorem MapAt.made (P : Program) (k : TypeId) (w : World) : MapAt P k (w.alloc (.map #[] 0)) w.heap.size 0 (fun _ => none) :=
  ⟨.map [], World.ownsMap_made _ _ _ _, fun v kl _ => ⟨rfl, fun x h => by cases h⟩⟩
theorem MapAt.block {P : Program} {k : TypeId} {w w' : World} {b n : Nat} {f : Value → Option Value} (h : MapAt P k w b n f) (hb : w'.heap[b]? = w.heap[b]?) : MapAt P k w' b n f := by
  obtain ⟨D, ⟨es, clock, h1, h2⟩, hf⟩ := h
  exact ⟨D, ⟨es, clock, hb.trans h1, h2⟩, hf⟩
theorem MapAt.lt {P : Program} {k : TypeId} {w : World} {b n : Nat} {f : Value → Option Value} (h : MapAt P k w b n f) : b < w.heap.size := by
  obtain ⟨D, h1, _⟩ := h
  exact h1.lt
theorem MapAt.mono {P : Program} {k : TypeId} {w : World} {b n n' : Nat} {f : Value → Option Value} (h : MapAt P k w b n f) (hn : n ≤ n') : MapAt P k w b n' f := by
  obtain ⟨D, h1, h2⟩ := h
  exact ⟨D, h1.mono hn, h2⟩
theorem MapAt.congr {P : Program} {k : TypeId} {w : World} {b n : Nat} {f f' : Value → Option Value} (h : MapAt P k w b n f) (hf : ∀ u, f' u = f u) : MapAt P k w b n f' := by
  obtain rfl : f' = f := funext hf
  exact h

/-- 'm[k]', its run. -/
theorem MapAt.run_look {P : Program} {k e t : TypeId} {w : World} {b n : Nat} {f : Value → Option Value} (h : MapAt P k w b n f) (K : Keyed P k) (ht : P.underlying t = some (.map k e)) {z : Value} (hz : (zeroValue e).run P w = .ok z w)
    {key : Value} {kl : Lit} (hkey : keyOf P k key = some kl) : (Instr.lookup t (.map (some b)) key false).run P w = .ok ((f key).getD z) w := by
  obtain ⟨D, h1, h2⟩ := h
  obtain ⟨h3, h4⟩ := h2 key kl hkey
  obtain ⟨v, ps, hrun, hv⟩ := h1.lookup K ht hz (zd := .held z) (zp := []) rfl hkey
  rw [hrun]
  simp only [rawE, Option.some.injEq, Prod.mk.injEq] at hv
  cases hf : f key with
  | none =>
    rw [hf] at h3
    rw [atKey_of_not_has (by simpa using h3)] at hv
    simpa using hv.1
  | some y =>
    rw [h4 y hf] at hv
    simpa using hv.1
/-- 'v, ok := m[k]', its run. -/
theorem MapAt.run_look_ok {P : Program} {k e t : TypeId} {w : World} {b n : Nat} {f : Value → Option Value} (h : MapAt P k w b n f) (K : Keyed P k) (ht : P.underlying t = some (.map k e)) {z : Value} (hz : (zeroValue e).run P w = .ok z w)
    {key : Value} {kl : Lit} (hkey : keyOf P k key = some kl) : (Instr.lookup t (.map (some b)) key true).run P w = .ok (.tuple #[(f key).getD z, .bool (f key).isSome]) w := by
  obtain ⟨D, h1, h2⟩ := h
  obtain ⟨h3, h4⟩ := h2 key kl hkey
  obtain ⟨v, ps, hrun, hv⟩ := h1.look_ok K ht hz (zd := .held z) (zp := []) rfl hkey
  rw [hrun, h3]
  simp only [rawE, Option.some.injEq, Prod.mk.injEq] at hv
  cases hf : f key with
  | none =>
    rw [hf] at h3
    rw [atKey_of_not_has (by simpa using h3)] at hv
    simpa using hv.1
  | some y =>
    rw [h4 y hf] at hv
    simpa using hv.1

theorem wpList_lookup_at {P : Program} (w : World) {ops : Array Oper} {rest : List Oper} {o : Oper} {a : Act} {Q : Exit → Act → World → Prop}
    (hg : o.guard = none) (m x : Operand) (t : TypeId) (hop : o.op = Op.lookup t m x false)
    (k e : TypeId) (K : Keyed P k) (ht : P.underlying t = some (.map k e)) (z : Value) (hz : (zeroValue e).run P w = .ok z w) (b n : Nat) (f : Value → Option Value)
    (hm : a.eval m = .map (some b)) (h : MapAt P k w b n f) (key : Value) (kl : Lit) (hx : a.eval x = key) (hkey : keyOf P k key = some kl) (c : Value) (hc : (f key).getD z = c)
    (hK : wpList P ops Q rest (a.put o.dst c) w) : wpList P ops Q (o :: rest) a w := by
  refine wpList_plain hg fun K' hK' => ?_
  unfold Oper.wp
  simp [execOp, hop, hm, hx, h.run_look K ht hz hkey, hc, Result.andThen]
  exact hK' _ _ hK
theorem wpList_lookup_ok_at {P : Program} (w : World) {ops : Array Oper} {rest : List Oper} {o : Oper} {a : Act} {Q : Exit → Act → World → Prop}
    (hg : o.guard = none) (m x : Operand) (t : TypeId) (hop : o.op = Op.lookup t m x true)
    (k e : TypeId) (K : Keyed P k) (ht : P.underlying t = some (.map k e)) (z : Value) (hz : (zeroValue e).run P w = .ok z w) (b n : Nat) (f : Value → Option Value)
    (hm : a.eval m = .map (some b)) (h : MapAt P k w b n f) (key : Value) (kl : Lit) (hx : a.eval x = key) (hkey : keyOf P k key = some kl) (c : Value) (ok : Bool) (hc : ((f key).getD z, (f key).isSome) = (c, ok))
    (hK : wpList P ops Q rest (a.put o.dst (.tuple #[c, .bool ok])) w) : wpList P ops Q (o :: rest) a w := by
  simp only [Prod.mk.injEq] at hc
  refine wpList_plain hg fun K' hK' => ?_
  unfold Oper.wp
  simp [execOp, hop, hm, hx, h.run_look_ok K ht hz hkey, hc, Result.andThen]
  exact hK' _ _ hK

/-- 'm[k] = v', its run. -/
theorem MapAt.run_store {P : Program} {k e t : TypeId} {w : World} {b n : Nat} {f : Value → Option Value} (h : MapAt P k w b n f) (K : Keyed P k) (ht : P.underlying t = some (.map k e)) (hn : n < maxLen)
    {key val : Value} {kl : Lit} (hkey : keyOf P k key = some kl) (f' : Value → Option Value) (hf1 : f' key = some val) (hf2 : ∀ u, u ≠ key → f' u = f u) :
    ∃ w', (Instr.mapUpdate t (.map (some b)) key val).run P w = .ok () w' ∧ MapAt P k w' b (n + 1) f' ∧ w.grownBy w' (some b) ∧ w'.heap.size = w.heap.size := by
  obtain ⟨D, h1, h2⟩ := h
  obtain ⟨w', hrun, r1, r2⟩ := h1.store K ht hn hkey (d := .held val) (ps := []) rfl
  refine ⟨w', hrun, ⟨_, r1, fun u ul hul => ?_⟩, r2.grown, ?_⟩
  · by_cases hu : u = key
    · subst hu
      have : ul = kl := by rw [hkey] at hul; exact (Option.some.inj hul).symm
      subst this
      refine ⟨?_, fun y hy => ?_⟩
      · rw [has_put_same h1.isMap (K.key hkey), hf1]; rfl
      · rw [hf1] at hy
        cases hy
        exact fun z => atKey_put_same h1.isMap (K.key hkey) _ _
    · have hne : ul ≠ kl := fun h => hu (K.inj (h ▸ hul) hkey)
      rw [has_put_other hne, hf2 u hu]
      refine ⟨(h2 u ul hul).1, fun y hy z => ?_⟩
      rw [atKey_put_other hne]
      exact (h2 u ul hul).2 y hy z
  · obtain ⟨es, clock, es', clock', hb, rfl⟩ := r2
    simp [Go.ChangeMaps.setBlock]

theorem wpList_mapUpdate_atOr {P : Program} (w : World) {ops : Array Oper} {rest : List Oper} {o : Oper} {a : Act} {Q : Exit → Act → World → Prop}
    (hg : o.guard = none) (m x v : Operand) (t : TypeId) (hop : o.op = Op.mapUpdate t m x v ∨ o.op = Op.insert t m x v)
    (k e : TypeId) (K : Keyed P k) (ht : P.underlying t = some (.map k e)) (b n : Nat) (f : Value → Option Value)
    (hm : a.eval m = .map (some b)) (h : MapAt P k w b n f) (hn : n < maxLen) (key val : Value) (kl : Lit) (hx : a.eval x = key) (hv : a.eval v = val) (hkey : keyOf P k key = some kl)
    (f' : Value → Option Value) (hf1 : f' key = some val) (hf2 : ∀ u, u ≠ key → f' u = f u)
    (hK : ∀ w', MapAt P k w' b (n + 1) f' → w.grownBy w' (some b) → w'.heap.size = w.heap.size → wpList P ops Q rest (a.put o.dst undef) w') :
    wpList P ops Q (o :: rest) a w := by
  refine wpList_plain hg fun K' hK' => ?_
  obtain ⟨w', hrun, r1, r2, r3⟩ := h.run_store K ht hn hkey f' hf1 hf2
  have key3 := hK w' r1 r2 r3
  unfold Oper.wp
  rcases hop with hop | hop <;> simp [execOp, hop, hm, hx, hv, hrun, Result.andThen] <;> exact hK' _ _ key3

/-- 'delete(m, k)', its run. -/
theorem MapAt.run_drop {P : Program} {k e t : TypeId} {w : World} {b n : Nat} {f : Value → Option Value} (h : MapAt P k w b n f) (K : Keyed P k) (ht : P.underlying t = some (.map k e))
    {key : Value} {kl : Lit} (hkey : keyOf P k key = some kl) (f' : Value → Option Value) (hf1 : f' key = none) (hf2 : ∀ u, u ≠ key → f' u = f u) (ty : TypeId) :
    ∃ w', (Builtin.delete_ #[t, k] ty #[.map (some b), key]).run P w = .ok (.tuple #[]) w' ∧ MapAt P k w' b n f' ∧ w.grownBy w' (some b) ∧ w'.heap.size = w.heap.size := by
  obtain ⟨D, h1, h2⟩ := h
  obtain ⟨w', hrun, r1, r2⟩ := h1.drop K ht hkey ty
  refine ⟨w', hrun, ⟨_, r1, fun u ul hul => ?_⟩, r2.grown, ?_⟩
  · by_cases hu : u = key
    · subst hu
      have : ul = kl := by rw [hkey] at hul; exact (Option.some.inj hul).symm
      subst this
      refine ⟨?_, fun y hy => ?_⟩
      · rw [has_del_same, hf1]; rfl
      · rw [hf1] at hy; cases hy
    · have hne : ul ≠ kl := fun h => hu (K.inj (h ▸ hul) hkey)
      rw [has_del_other hne, hf2 u hu]
      refine ⟨(h2 u ul hul).1, fun y hy z => ?_⟩
      rw [atKey_del_other hne]
      exact (h2 u ul hul).2 y hy z
  · obtain ⟨es, clock, es', clock', hb, rfl⟩ := r2
    simp [Go.ChangeMaps.setBlock]
end Go.Proofs.YtjcefgjgjhdbpaaGreatDoor
