/-
  A list of dependencies in memory of its own: slices.Clone of it. Helper text; the conditions are those typed.
-/
import Derived.Test.YtgeimldijagkkaaText
import Derived.Shelf.SlicesE.Clone
namespace Go.Proofs.Ytgeimldijagkkaa
set_option linter.unusedVariables false
set_option linter.unusedSimpArgs false
open Go.RowKit Go.Maps

theorem flat_len {k : Nat} (f : Nat → List Value) (hl : ∀ i, (f i).length = k) : ∀ n, ((List.range n).flatMap f).length = n * k
  | 0 => by simp
  | n + 1 => by
    rw [List.range_succ, List.flatMap_append, List.length_append, flat_len f hl n, List.flatMap_singleton, hl, Nat.succ_mul]
theorem flat_get {k : Nat} (hk : 0 < k) (f : Nat → List Value) (hl : ∀ i, (f i).length = k) : ∀ n j, j < n * k → ((List.range n).flatMap f)[j]? = (f (j / k))[j % k]?
  | 0, j, h => by omega
  | n + 1, j, h => by
    rw [List.range_succ, List.flatMap_append, List.flatMap_singleton]
    by_cases hj : j < n * k
    · rw [List.getElem?_append_left (by rw [flat_len f hl]; exact hj)]
      exact flat_get hk f hl n j hj
    · rw [List.getElem?_append_right (by rw [flat_len f hl]; omega), flat_len f hl]
      rw [Nat.succ_mul] at h
      have hc : n * k = k * n := Nat.mul_comm n k
      obtain ⟨r, hr⟩ : ∃ r, j = k * n + r := ⟨j - k * n, by omega⟩
      have hrk : r < k := by omega
      have h1 : j / k = n := by
        rw [hr, Nat.mul_add_div hk, Nat.div_eq_of_lt hrk]
        rfl
      have h2 : j % k = j - n * k := by
        rw [hr, Nat.mul_add_mod, Nat.mod_eq_of_lt hrk]
        omega
      rw [h1, h2]
theorem flat_at {k : Nat} (hk : 0 < k) (f : Nat → List Value) (hl : ∀ i, (f i).length = k) {n i r : Nat} (hi : i < n) (hr : r < k) : ((List.range n).flatMap f)[i * k + r]? = (f i)[r]? := by
  have h : i * k + r < n * k := by
    have := Nat.mul_le_mul_right k (show i + 1 ≤ n from hi)
    rw [Nat.succ_mul] at this
    omega
  rw [flat_get hk f hl n _ h]
  have h1 : (i * k + r) / k = i := by
    rw [Nat.mul_comm i k, Nat.mul_add_div hk, Nat.div_eq_of_lt hr]
    rfl
  have h2 : (i * k + r) % k = r := by
    rw [Nat.mul_comm i k, Nat.mul_add_mod, Nat.mod_eq_of_lt hr]
  rw [h1, h2]

theorem info85 : (Try.prog.info? 85).map (fun i => (i.zero, i.size, i.bytes)) = some (some (.agg #[.int .i64 0, .string ⟨#[]⟩, .int .i64 0, .string ⟨#[]⟩, .slice none 0 0]), 5, 72) := by kernel_rfl
noncomputable def depI : TypeInfo := (Try.prog.info? 85).get (by kernel_rfl)

set_option maxRecDepth 100000 in
theorem cloneD_zero (a : Addr) (c : Nat) (w : World) : Calls Try.prog 83 #[.slice (some a) 0 c] w fun e w' => ∃ a' c', e = .returned (.slice a' 0 c') ∧ Below w.heap.size w w' := by
  obtain ⟨i0, hi, hz0, hz1, hz2⟩ := info_parts info85
  have q22 : ∀ (w : World) (a : Option Addr) (n c n' c' : Nat), (binOp .eql 23 (.slice a n c) (.slice none n' c')).run Try.prog w = .ok (.bool a.isNone) w := fun w a n c n' c' => Lib.run_eql_slice_nil w _ _ a n c n' c' Try.underlying23
  go_enter Try.func83, Try.ntmps83
  go_wp2_with (at_builtin; refine wpList_append_own _ rfl _ _ 23 rfl w.heap.size 85 i0 _ 5 72 Try.underlying23 hi hz0 hz1 hz2 rfl (by decide) _ _ _ rfl (World.ownsRow_made w #[] 0 (Nat.le_refl _) (Nat.zero_le _) rfl) a 0 c [] rfl rfl (by intro j u hj; simp at hj) (by intro u hu; cases hu) (by unfold maxLen; omega) (by omega) (by simp) ?_)
  intro v' w1 hown hgrow hnil
  have hv : ∃ a' c', v' = .slice a' 0 c' := by
    rcases hown.2 with ⟨h, _⟩ | ⟨g, cap, cur, h, _⟩
    · exact ⟨none, 0, h⟩
    · exact ⟨_, cap, h⟩
  obtain ⟨a', c', rfl⟩ := hv
  go_wp2
  go_ret
  exact ⟨a', c', rfl, ((Below.refl _ w).alloc (Nat.le_refl _) _).grown hgrow (by simp) (by intro k hk; simp [Value.ownBlock] at hk; omega)⟩

/-- The cells of one element. -/
def Chunk (cur : Array Value) (k i : Nat) (cs : List Value) : Prop := ∀ r u, cs[r]? = some u → cur[i * k + r]? = some u

theorem one_cells {w : World} {S : Nat → Prop} {d : DepT} {cs : List Value} (h : DepC w S d cs) : ∀ u ∈ cs, u.oneCell' = true := by
  cases d with
  | mk k nm op ev n args =>
    obtain ⟨a, c, rfl, _⟩ := h
    intro u hu
    simp only [List.mem_cons, List.not_mem_nil, or_false] at hu
    rcases hu with rfl | rfl | rfl | rfl | rfl <;> rfl

/-- slices.Clone of dependencies. -/
theorem cloneD_c (n : Nat) (args : Fin n → DepT) (a : Option Addr) (c : Nat) (S : Nat → Prop) (w : World) (h : DepsV w S n args (.slice a n c)) :
    Calls Try.prog 83 #[.slice a n c] w fun e w' => (∃ a' c', e = .returned (.slice a' n c') ∧ (n ≠ 0 → ∃ g cur, a' = some ⟨g, 0, none⟩ ∧ w.heap.size ≤ g ∧ w'.heap[g]? = some (.cells cur 85 (0, 0)) ∧ ∀ i : Fin n, ∃ cs, DepC w S (args i) cs ∧ Chunk cur 5 i cs)) ∧ Below w.heap.size w w' := by
  obtain ⟨a2, c2, he, hn, hin⟩ := h
  injection he with h1 h2 h3
  subst h1 h3
  by_cases h0 : n = 0
  · subst h0
    cases a with
    | none =>
      refine (AnyE.slices_Clone_nil Try.layCloneD 0 c w).mono fun e w' ⟨he, hw⟩ => ?_
      subst hw
      exact ⟨⟨none, 0, he, fun h => absurd rfl h⟩, Below.refl _ _⟩
    | some a =>
      refine (cloneD_zero a c w).mono fun e w' ⟨a', c', he, hb⟩ => ?_
      exact ⟨⟨a', c', he, fun h => absurd rfl h⟩, hb⟩
  obtain ⟨b, off, rfl, hs, hi⟩ := hin h0
  obtain ⟨enc, henc⟩ : ∃ enc : Fin n → List Value, ∀ i, DepC w S (args i) (enc i) ∧ CellsAt w b (off + i * 5) (enc i) := ⟨_, fun i => Classical.choose_spec (hi i)⟩
  obtain ⟨f, hf⟩ : ∃ f : Nat → List Value, f = fun i => if h : i < n then enc ⟨i, h⟩ else List.replicate 5 undef := ⟨_, rfl⟩
  have hfl : ∀ i, (f i).length = 5 := by
    intro i
    rw [hf]
    by_cases h : i < n
    · simp only [dif_pos h]
      exact (henc ⟨i, h⟩).1.len
    · simp only [dif_neg h]
      rfl
  have hfi : ∀ i (h : i < n), f i = enc ⟨i, h⟩ := fun i h => by rw [hf]; simp only [dif_pos h]
  refine (AnyE.slices_Clone Try.layCloneD depI (.agg #[.int .i64 0, .string ⟨#[]⟩, .int .i64 0, .string ⟨#[]⟩, .slice none 0 0]) 5 72 (by kernel_rfl) (by kernel_rfl) (by kernel_rfl) (by kernel_rfl) rfl (by decide) Try.sizeOf85 b off n c ((List.range n).flatMap f) w (flat_len f hfl n) (by unfold maxLen; omega) hn ?_ ?_).mono ?_
  · intro j u hj
    have hjl : j < n * 5 := by
      have := (List.getElem?_eq_some_iff.1 hj).1
      rwa [flat_len f hfl] at this
    rw [flat_get (by decide) f hfl n j hjl] at hj
    have hjn : j / 5 < n := by omega
    rw [hfi _ hjn] at hj
    have := (henc ⟨j / 5, hjn⟩).2 _ u hj
    rw [show off + (⟨j / 5, hjn⟩ : Fin n).val * 5 + j % 5 = off + j by show off + j / 5 * 5 + j % 5 = off + j; omega] at this
    exact this
  · intro u hu
    rw [List.mem_flatMap] at hu
    obtain ⟨i, hi', hu⟩ := hu
    have hin' : i < n := List.mem_range.1 hi'
    rw [hfi _ hin'] at hu
    exact one_cells (henc ⟨i, hin'⟩).1 u hu
  · rintro e w' ⟨v', he, hown, hnil, hb⟩
    rcases hown.2 with ⟨hv, _⟩ | ⟨g, cap, cur, hv, hg, hcell, hcap, _, hsz, htake⟩
    · exact absurd hv hnil
    · subst hv
      refine ⟨⟨_, cap, he, fun _ => ⟨g, cur, rfl, hg, hcell, fun i => ⟨enc i, (henc i).1, fun r u hr => ?_⟩⟩⟩, hb⟩
      have hr5 : r < 5 := by
        have := (List.getElem?_eq_some_iff.1 hr).1
        rwa [(henc i).1.len] at this
      have h5 : ((List.range n).flatMap f)[i.val * 5 + r]? = some u := by
        rw [flat_at (by decide) f hfl i.2 hr5, hfi _ i.2]
        exact hr
      rw [← htake] at h5
      have hlt : i.val * 5 + r < n * 5 := by
        have := i.2
        omega
      rw [List.getElem?_take_of_lt hlt] at h5
      rw [← Array.getElem?_toList]
      exact h5
end Go.Proofs.Ytgeimldijagkkaa
