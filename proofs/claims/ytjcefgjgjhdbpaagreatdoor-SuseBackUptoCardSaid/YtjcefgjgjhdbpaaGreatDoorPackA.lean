/-
  A package begins: what lies in memory while its words are gathered. Helper text; the conditions are those typed.
-/
import Derived.Test.YtjcefgjgjhdbpaaGreatDoorRdrB
import Derived.Test.YtjcefgjgjhdbpaaGreatDoorSplit
import Derived.RangeFuncBox
import Derived.Maps.AppendAt
import Derived.Maps.OwnIn
namespace Go.Proofs.YtjcefgjgjhdbpaaGreatDoor
set_option linter.unusedVariables false
set_option linter.unusedSimpArgs false
open Go.RowKit Go.Shelf Go.Maps

theorem own_box {W W' : World} {B : Nat} {row : Option Nat} {b : Nat} {cs : List Value} {ty : TypeId} (h : BoxN W b cs ty) (hg : W.grownBy W' row) (hr : ∀ r, row = some r → B ≤ r ∧ ∃ o : Obj, W.heap[r]? = some o ∧ o.isCells = false) : BoxN W' b cs ty :=
  h.to (hg.block b h.lt (fun e => by
    obtain ⟨_, o, ho, hc⟩ := hr b e.symm
    unfold BoxN at h
    rw [h] at ho
    cases ho
    cases hc))
theorem own_row {W W' : World} {B n₀ : Nat} {row : Option Nat} {e : TypeId} {k n : Nat} {v : Value} {xs : List Value} (h : W.ownsRow n₀ e k v n xs) (hg : W.grownBy W' row) (hr : ∀ r, row = some r → B ≤ r ∧ ∃ o : Obj, W.heap[r]? = some o ∧ o.isCells = false) : W'.ownsRow n₀ e k v n xs :=
  ownsRow_to h fun g hv => hg.block g (h.lt g hv).2 (fun e => by
    obtain ⟨_, o, ho, hc⟩ := hr g e.symm
    rcases h.2 with ⟨hn, _⟩ | ⟨g', cap, cur, hf, _, hcell, _⟩
    · subst hn; cases hv
    · subst hf
      cases hv
      rw [hcell] at ho
      cases ho
      cases hc)

theorem own_cells {W : World} {n₀ : Nat} {e : TypeId} {k n : Nat} {v : Value} {xs : List Value} (h : W.ownsRow n₀ e k v n xs) : ∀ (j : Nat) (o : Obj), v.ownBlock = some j → W.heap[j]? = some o → o.isCells = true := by
  intro j o hj ho
  rcases h.2 with ⟨hn, _⟩ | ⟨g', cap, cur, hf, _, hcell, _⟩
  · subst hn; cases hj
  · subst hf
    cases hj
    rw [hcell] at ho
    cases ho
    rfl
theorem ownsRow_base {W : World} {n₀ n₁ : Nat} {e : TypeId} {k n : Nat} {v : Value} {xs : List Value} (h : W.ownsRow n₀ e k v n xs) (hn : n₁ ≤ n₀) : W.ownsRow n₁ e k v n xs := by
  refine ⟨h.1, ?_⟩
  rcases h.2 with h2 | ⟨g, cap, cur, hf, hB, rest⟩
  · exact .inl h2
  · exact .inr ⟨g, cap, cur, hf, Nat.le_trans hn hB, rest⟩
theorem splitC_len (c : UInt8) : ∀ l : List UInt8, (splitC c l).length ≤ l.length + 1
  | [] => Nat.le_refl _
  | x :: l => by
    have h := splitC_len c l
    rw [splitC_cons]
    by_cases e : x = c
    · rw [if_pos e]; simp; omega
    · rw [if_neg e]
      cases hs : splitC c l with
      | nil => simp
      | cons a t => rw [hs] at h; simp at h ⊢; omega
theorem grow_box {w w1 w2 : World} {n₀ b : Nat} {cs : List Value} {ty : TypeId} {e : TypeId} {k n : Nat} {v : Value} {xs : List Value} (h : BoxN w b cs ty) (ho : w.ownsRow n₀ e k v n xs) (hb : Below w.heap.size w w1) (hg : w1.grownBy w2 v.ownBlock) (hn : b < n₀) : BoxN w2 b cs ty :=
  h.to ((hg.block b (Nat.lt_of_lt_of_le h.lt hb.size) (fun e => by have := (ho.lt b e.symm).1; omega)).trans (hb.block b h.lt))

theorem grown_own {w w1 : World} {B : Nat} {e : TypeId} {k : Nat} {v : Value} {n : Nat} {xs : List Value} (h : w.ownsRow B e k v n xs) (hB : B ≤ w.heap.size) (hg : w.grownBy w1 v.ownBlock) : Below B w w1 :=
  ⟨hg.os, hg.tape, hg.output, hg.size, fun b hb => hg.block b (by omega) (fun e => by have := (h.lt b e.symm).1; omega)⟩


/-- Words as they stand in a row. -/
def strsL (l : List (List UInt8)) : List Value := l.map fun x => .string (mkB x)
/-- The words so far. -/
def wordsP (pre : List (TxtM 40000)) : List (List UInt8) := (pre.map fun x => bs x.1).filter fun w => !w.isEmpty
theorem wordsP_snoc (pre : List (TxtM 40000)) (x : TxtM 40000) : wordsP (pre ++ [x]) = if bs x.1 = [] then wordsP pre else wordsP pre ++ [bs x.1] := by
  unfold wordsP
  rw [List.map_append, List.filter_append, List.map_singleton]
  by_cases h : bs x.1 = []
  · rw [if_pos h, h]
    simp
  · rw [if_neg h]
    have : (!(bs x.1).isEmpty) = true := by
      cases hb : bs x.1 with
      | nil => exact absurd hb h
      | cons _ _ => rfl
    rw [List.filter_cons, if_pos this]
    rfl
theorem wordsP_len (pre : List (TxtM 40000)) : (wordsP pre).length ≤ pre.length := by
  unfold wordsP
  refine Nat.le_trans (List.length_filter_le _ _) ?_
  rw [List.length_map]
  exact Nat.le_refl _
/-- Between two rounds. -/
structure PkI (w : World) (lb sB : Nat) (pre : List (TxtM 40000)) (W : World) : Prop where
  box : ∃ v, BoxN W lb [v] 34 ∧ W.ownsRow w.heap.size 9 1 v (wordsP pre).length (strsL (wordsP pre))
  os : W.os = w.os
  tape : W.tape = w.tape
  output : W.output = w.output
  sz : w.heap.size ≤ W.heap.size
  keep : ∀ b, b < w.heap.size → b ≠ lb → b ≠ sB → W.heap[b]? = w.heap[b]?
theorem PkI.own {w : World} {lb sB B : Nat} (hB : w.heap.size ≤ B) : OwnFrom B (PkI w lb sB) := fun pre W W' row h hg hr => by
  obtain ⟨v, h1, h2⟩ := h.box
  exact ⟨⟨v, own_box h1 hg hr, own_row h2 hg hr⟩, hg.os.trans h.os, hg.tape.trans h.tape, hg.output.trans h.output, Nat.le_trans h.sz hg.size, fun b hb h1 h2 => (hg.block b (Nat.lt_of_lt_of_le hb h.sz) (fun e => by have := (hr b e.symm).1; omega)).trans (h.keep b hb h1 h2)⟩
theorem PkI.set {w : World} {lb sB : Nat} (hs : sB < w.heap.size ∧ lb ≠ sB) (pre : List (TxtM 40000)) (W : World) (x : Value) (h : PkI w lb sB pre W) : PkI w lb sB pre (W.setCell ⟨sB, 0, none⟩ x) := by
  obtain ⟨v, h1, h2⟩ := h.box
  exact ⟨⟨v, h1.other hs.2 _ _, ownsRow_to h2 fun g hg => set_other _ (by have := (h2.lt g hg).1; omega)⟩, h.os, h.tape, h.output, by rw [set_size]; exact h.sz, fun b hb h1 h2 => (set_other _ h2).trans (h.keep b hb h1 h2)⟩
/-- What the package's end leaves. -/
def WholeP (w : World) (L B M : Nat) (E : Int) (out : List PkgT) (e : Ending) (w' : World) : Prop :=
  e = .returned (.int .i64 E) ∧ Below L w w' ∧ (E = 0 → ∃ vo K z0 z1 z2 z3 z4 z5 z6 z7 z8 z9 z10 z11 has, BoxN w' B [vo, z0, z1, z2, z3, z4, z5, z6, z7, z8, z9, z10, z11, .bool has, .map (some M)] 41 ∧ OutO w' L B M K out vo)
def PackP (w : World) (L B M : Nat) (E : Int) (out : List PkgT) (s : List UInt8) (e : Ending) (w' : World) : Prop :=
  Below L w w' ∧ ((E ≠ 0 ∧ e = .returned (.int .i64 E)) ∨ (E = 0 ∧ 200 ≤ out.length ∧ e = .returned (.int .i64 131)) ∨ (E = 0 ∧ out.length < 200 ∧ (fieldsS s).length ≠ 4 ∧ e = .returned (.int .i64 130)) ∨
    (E = 0 ∧ out.length < 200 ∧ ∃ a b c d, fieldsS s = [a, b, c, d] ∧ e = .returned (.int .i64 0) ∧ ∃ K vo, Rdr w' L B M K out (newSP a b c d) true vo (fun _ => .slice none 0 0) (.slice none 0 0)))
set_option maxHeartbeats 1000000 in
theorem pack_err (L B M : Nat) (E : Int) (out : List PkgT) (s : ByteArray) (w : World) (hw : Calls Tryz.prog 13 #[.pointer (some ⟨B, 0, none⟩)] w (WholeP w L B M E out)) (hE : E ≠ 0) :
    Calls Tryz.prog 17 #[.pointer (some ⟨B, 0, none⟩), .string s] w (PackP w L B M E out (bs s)) := by
  have HW := Lib.hid hw
  have e1 : (E == 0) = false := by simpa using hE
  have e2 : (E != 0) = true := by simpa using hE
  clear hw
  go_enter Tryz.func17, Tryz.ntmps17
  go_wp2_with fail
  refine HW.out.mono ?_
  rintro e w' ⟨rfl, hb, _⟩
  have HB := Lib.hid hb
  clear hb
  go_wp2_with fail
  go_ret
  exact ⟨HB.out, .inl ⟨hE, rfl⟩⟩
set_option maxHeartbeats 1000000 in
theorem pack_many (L B M : Nat) (out : List PkgT) (s : ByteArray) (w : World) (hw : Calls Tryz.prog 13 #[.pointer (some ⟨B, 0, none⟩)] w (WholeP w L B M 0 out)) (hn : 200 ≤ out.length) :
    Calls Tryz.prog 17 #[.pointer (some ⟨B, 0, none⟩), .string s] w (PackP w L B M 0 out (bs s)) := by
  have HW := Lib.hid hw
  have e1 : (200 : Int) ≤ (out.length : Int) := by omega
  clear hw
  go_enter Tryz.func17, Tryz.ntmps17
  go_wp2_with fail
  refine HW.out.mono ?_
  rintro e w' ⟨rfl, hb, hx⟩
  obtain ⟨vo, K, z0, z1, z2, z3, z4, z5, z6, z7, z8, z9, z10, z11, has, hbx, ho⟩ := hx rfl
  obtain ⟨xs, hr, _⟩ := ho.row
  obtain ⟨va, vc, rfl⟩ := ownsRow_slice hr
  have c0 := hbx.cell (j := 0) rfl
  have HB := Lib.hid hb
  clear hb hx hbx ho hr
  go_wp2_with fail
  go_ret
  exact ⟨HB.out, .inr (.inl ⟨rfl, hn, rfl⟩)⟩
end Go.Proofs.YtjcefgjgjhdbpaaGreatDoor
