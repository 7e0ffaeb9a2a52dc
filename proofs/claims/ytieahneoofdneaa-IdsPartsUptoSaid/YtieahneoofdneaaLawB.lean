/-
  Bytes joined, bytes as a string; the plain laws of Put and Take; the walk of IdsBack. Helper text; the conditions are those typed.
-/
import Derived.Test.YtieahneoofdneaaLawA
import Derived.Laws.AppendOwnNone
import Derived.Laws.BytesArg
import Derived.Laws.IdiomStrings
import Derived.ChangeArms
import Derived.Deep.Slices
namespace Go.Proofs.Ytieahneoofdneaa
set_option linter.unusedVariables false
set_option linter.unusedSimpArgs false
open Go.RowKit Go.Maps Go.Shelf Go.Sort

/-- The slice value v reads as the bytes l. -/
def ReadsB (w : World) (v : Value) (l : List UInt8) : Prop :=
  (v = .slice none 0 0 ∧ l = []) ∨ ∃ a c, v = .slice (some a) l.length c ∧ ∀ j u, (Lib.byteCells l)[j]? = some u → w.cell? (a.add j) = some u

theorem ReadsB.at {w : World} {v : Value} {l : List UInt8} (h : ReadsB w v l) : ∃ a c, v = .slice a l.length c ∧ BytesAt w a l := by
  rcases h with ⟨rfl, rfl⟩ | ⟨a, c, rfl, hc⟩
  · exact ⟨none, 0, rfl, .inl rfl⟩
  · refine ⟨_, _, rfl, ?_⟩
    by_cases h0 : l = []
    · exact .inl h0
    · right
      obtain ⟨b, off, spot⟩ := a
      have hl : 0 < l.length := List.length_pos_iff.2 h0
      have h1 := hc 0 (.int .u8 (l[0]).toNat) (by simp [Lib.byteCells, hl])
      have hs : spot = none := by simpa [Addr.add] using World.cell?_spot h1
      subst hs
      refine ⟨b, off, rfl, fun i hi => ?_⟩
      have h2 := hc i (.int .u8 (l[i]).toNat) (by simp [Lib.byteCells, hi])
      have e : (⟨b, off, none⟩ : Addr).add i = ⟨b, off + i, none⟩ := by unfold Addr.add; split <;> simp_all
      rw [e] at h2
      rw [h2]
      simp [List.getD, hi]

theorem ReadsB.below {w w' : World} {v : Value} {l : List UInt8} (h : ReadsB w v l) (hc : Below w.heap.size w w') : ReadsB w' v l := by
  rcases h with h | ⟨a, c, hv, hcell⟩
  · exact .inl h
  · exact .inr ⟨a, c, hv, fun j u hj => (World.cell?_of_block (w := w) (hc.block _ (World.block_lt_of_cell? w _ (hcell j u hj)))).trans (hcell j u hj)⟩

theorem OwnB.reads {w0 w : World} {v : Value} {l : List UInt8} (h : OwnB w0 v l w) : ReadsB w v l := by
  obtain ⟨h, _⟩ := h
  rcases h.2 with ⟨rfl, h0⟩ | ⟨g, cap, cur, rfl, _⟩
  · exact .inl ⟨rfl, List.length_eq_zero_iff.1 h0⟩
  · exact .inr ⟨_, _, rfl, h.cells rfl⟩

theorem OwnB.slice2 {w0 w : World} {v : Value} {l : List UInt8} (h : OwnB w0 v l w) : ∃ a c, v = .slice a l.length c ∧ BytesAt w a l ∧ l.length ≤ c ∧ c ≤ maxLen := by
  obtain ⟨a, c, hv, hb⟩ := h.slice
  refine ⟨a, c, hv, hb, ?_⟩
  rcases h.1.2 with ⟨h1, h0⟩ | ⟨g, cap, cur, h1, _, _, h2, h3, _⟩
  · rw [hv] at h1
    simp at h1
    obtain ⟨_, h4, h5⟩ := h1
    subst h5
    simp [h0]
  · rw [hv] at h1
    simp at h1
    obtain ⟨_, rfl⟩ := h1
    exact ⟨h2, h3⟩

theorem OwnB.made (w : World) : OwnB w (.slice (some ⟨w.heap.size, 0, none⟩) 0 0) [] (w.alloc (.cells #[] 5)) :=
  ⟨World.ownsRow_made w #[] 0 (Nat.le_refl _) (Nat.zero_le _) rfl, below_alloc w _⟩

/-- append of bytes to bytes of the call's own. -/
theorem wpList_appB {w0 w : World} {ops : Array Oper} {rest : List Oper} {o : Oper} {a : Act} {Q : Exit → Act → World → Prop} (hgd : o.guard = none) (s x : Operand)
    (ho : o.op = .call { callee := .builtin .append, args := #[s, x], argTypes := #[23, 23] })
    (v u : Value) (l m : List UInt8) (hs : a.eval s = v) (hx : a.eval x = u) (hown : OwnB w0 v l w) (hu : ReadsB w u m) (hlim : l.length + m.length ≤ 140737488355328)
    (h : ∀ v' w', OwnB w0 v' (l ++ m) w' → w.grownBy w' v.ownBlock → wpList Try.prog ops Q rest (a.put o.dst v') w') : wpList Try.prog ops Q (o :: rest) a w := by
  obtain ⟨i0, hi, hz0, hz1, hz2⟩ := info_parts info5
  rcases hu with ⟨rfl, rfl⟩ | ⟨ad, c, rfl, hc⟩
  · exact wpList_append_own_none hgd s x 23 ho w0.heap.size 5 i0 1 Try.underlying23 hi v _ _ hs hown.1 hx (h v w (by simpa using hown) ⟨rfl, rfl, rfl, Nat.le_refl _, fun _ _ _ => rfl⟩)
  · refine wpList_append_own w hgd s x 23 ho w0.heap.size 5 i0 (.int .u8 0) 1 1 Try.underlying23 hi hz0 hz1 hz2 rfl (by decide) v _ _ hs hown.1 ad m.length c (Lib.byteCells m) hx (by simp [Lib.byteCells]) hc ?_ (by unfold maxLen; omega) (by omega) hown.2.size ?_
    · intro u hu
      simp [Lib.byteCells] at hu
      obtain ⟨c, _, rfl⟩ := hu
      rfl
    · intro v' w' h1 h2 _
      exact h v' w' ⟨by rw [Lib.byteCells_append, List.length_append]; exact h1, hown.2.grown h2 hown.2.size (fun k hk => (hown.1.lt k hk).1)⟩ h2

/-- string(b). -/
theorem convB {w : World} {a : Option Addr} {l : List UInt8} (h : BytesAt w a l) (cap : Nat) : (convert 23 9 (.slice a l.length cap)).run Try.prog w = .ok (.string ⟨l.toArray⟩) w := by
  cases a with
  | none =>
    have h0 : l = [] := by
      rcases h with h | ⟨b, off, e, _⟩
      · exact h
      · cases e
    subst h0
    exact run_convert_bytes_nil w 23 5 Try.underlying23 Try.underlying5 _ _ 9 Try.underlying9
  | some ad =>
    refine run_convert_bytes_back w 23 9 5 ad cap l Try.underlying23 Try.underlying5 Try.underlying9 ?_
    intro j hj
    rcases h with h | ⟨b, off, e, hc⟩
    · subst h; simp at hj
    · cases e
      have e : (⟨b, off, none⟩ : Addr).add j = ⟨b, off + j, none⟩ := by unfold Addr.add; split <;> simp_all
      rw [e, hc j hj]
      simp [List.getD, hj]

/-! ### the plain laws -/
theorem take_uvarint : ∀ (f n i acc : Nat) (r : List UInt8), n < 128 ^ f → i ≤ 9 → n < 2 ^ (64 - 7 * i) → (i = 0 ∨ 0 < n) →
    takeB i acc (Lib.uvarint n ++ r) = (acc + n * 2 ^ (7 * i), i + (Lib.uvarint n).length, 0)
  | 0, n, i, acc, r, hf, hi, hn, h0 => by
    have : n = 0 := by simpa using hf
    subst this
    have hi0 : i = 0 := by omega
    subst hi0
    simp [Lib.uvarint_small, takeB]
  | f + 1, n, i, acc, r, hf, hi, hn, h0 => by
    have hi9 : i = 9 → n < 2 := by
      intro h
      subst h
      simpa using hn
    by_cases hs : n < 128
    · rw [Lib.uvarint_small hs]
      have hb : (n.toUInt8).toNat = n := Lib.toUInt8_toNat (by omega)
      simp only [List.cons_append, List.nil_append, takeB, hb]
      rw [if_neg (by intro h; have := hi9 h.1; omega), if_pos hs, if_neg (by intro h; omega)]
      simp
    · have hi8 : i ≤ 8 := by
        rcases Nat.lt_or_ge i 9 with h | h
        · omega
        · have := hi9 (by omega); omega
      rw [Lib.uvarint_big (by omega)]
      have hb : ((n % 128 + 128).toUInt8).toNat = n % 128 + 128 := Lib.toUInt8_toNat (by omega)
      simp only [List.cons_append, takeB, hb]
      rw [if_neg (by omega), if_neg (by omega)]
      have h2 : n / 128 < 2 ^ (64 - 7 * (i + 1)) := by
        have e : 2 ^ (64 - 7 * i) = 2 ^ (64 - 7 * (i + 1)) * 128 := by
          rw [show 64 - 7 * i = (64 - 7 * (i + 1)) + 7 by omega, Nat.pow_add]
        rw [e] at hn
        exact Nat.div_lt_of_lt_mul (by rw [Nat.mul_comm]; exact hn)
      have h3 : n / 128 < 128 ^ f := Nat.div_lt_of_lt_mul (by rw [Nat.pow_succ, Nat.mul_comm] at hf; exact hf)
      rw [take_uvarint f (n / 128) (i + 1) _ r h3 (by omega) h2 (.inr (by omega))]
      have e1 : (n % 128 + 128) % 128 = n % 128 := by omega
      rw [e1]
      have e2 : 2 ^ (7 * (i + 1)) = 2 ^ (7 * i) * 128 := by
        rw [show 7 * (i + 1) = 7 * i + 7 by omega, Nat.pow_add]
      refine Prod.ext ?_ (Prod.ext ?_ rfl)
      · show acc + n % 128 * 2 ^ (7 * i) + n / 128 * 2 ^ (7 * (i + 1)) = acc + n * 2 ^ (7 * i)
        rw [e2]
        have e3 : n = n % 128 + n / 128 * 128 := by omega
        calc acc + n % 128 * 2 ^ (7 * i) + n / 128 * (2 ^ (7 * i) * 128)
            = acc + (n % 128 + n / 128 * 128) * 2 ^ (7 * i) := by rw [Nat.add_mul, Nat.mul_assoc, Nat.mul_comm 128 (2 ^ (7 * i)), Nat.add_assoc]
          _ = acc + n * 2 ^ (7 * i) := by rw [← e3]
      · show i + 1 + (Lib.uvarint (n / 128)).length = i + ((n % 128 + 128).toUInt8 :: Lib.uvarint (n / 128)).length
        simp
        omega

theorem take_back {n : Nat} (h : n < 18446744073709551616) (r : List UInt8) : takeB 0 0 (Lib.uvarint n ++ r) = (n, (Lib.uvarint n).length, 0) := by
  rw [take_uvarint 10 n 0 0 r (Nat.lt_trans h (by decide)) (by omega) h (.inl rfl)]
  simp

theorem uvarint_prefix {n m : Nat} (hn : n < 18446744073709551616) (hm : m < 18446744073709551616) (h : (Lib.uvarint m).take (Lib.uvarint n).length = Lib.uvarint n) : n = m := by
  have h1 := take_back hm []
  rw [List.append_nil] at h1
  have h2 : Lib.uvarint m = Lib.uvarint n ++ (Lib.uvarint m).drop (Lib.uvarint n).length := by
    conv => lhs; rw [← List.take_append_drop (Lib.uvarint n).length (Lib.uvarint m), h]
  rw [h2, take_back hn] at h1
  exact congrArg Prod.fst h1
end Go.Proofs.Ytieahneoofdneaa
