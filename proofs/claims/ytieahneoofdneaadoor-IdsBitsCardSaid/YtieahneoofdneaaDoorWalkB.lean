/-
  Put and Take: the contracts. Helper text; the conditions are those typed.
-/
import Derived.Test.YtieahneoofdneaaDoorWalkA
import Derived.Lib.VarintMem
import Derived.Lib.VarintBits
import Derived.Lib.EndianBits
namespace Go.Proofs.YtieahneoofdneaaDoor
set_option linter.unusedVariables false
set_option linter.unusedSimpArgs false
open Go.RowKit Go.Maps Go.Shelf Go.Sort

/-- The slice with address a reads as the bytes l. -/
def BytesAt (w : World) (a : Option Addr) (l : List UInt8) : Prop :=
  l = [] ∨ ∃ b off, a = some ⟨b, off, none⟩ ∧ ∀ i, i < l.length → w.cell? ⟨b, off + i, none⟩ = some (.int .u8 (l.getD i 0).toNat)

/-- v is a slice of bytes in memory made since w0, and of what was there nothing has turned. -/
def OwnB (w0 : World) (v : Value) (l : List UInt8) (w : World) : Prop := w.ownsRow w0.heap.size 5 1 v l.length (Lib.byteCells l) ∧ Below w0.heap.size w0 w

theorem OwnB.slice {w0 w : World} {v : Value} {l : List UInt8} (h : OwnB w0 v l w) : ∃ a c, v = .slice a l.length c ∧ BytesAt w a l := by
  obtain ⟨h, _⟩ := h
  rcases h.2 with ⟨rfl, h0⟩ | ⟨g, cap, cur, rfl, _⟩
  · exact ⟨none, 0, by rw [h0], .inl (List.length_eq_zero_iff.1 h0)⟩
  · refine ⟨_, _, rfl, .inr ⟨g, 0, rfl, fun i hi => ?_⟩⟩
    have := h.cellAt i (by omega)
    rw [Nat.zero_add, this]
    simp [Lib.byteCells, List.getD, List.getElem?_eq_getElem hi]

theorem BytesAt.below {w w' : World} {a : Option Addr} {l : List UInt8} (h : BytesAt w a l) (hc : Below w.heap.size w w') : BytesAt w' a l := by
  rcases h with h | ⟨b, off, rfl, hcell⟩
  · exact .inl h
  · exact .inr ⟨b, off, rfl, fun i hi => (World.cell?_of_block (w := w) (hc.block b (World.block_lt_of_cell? w _ (hcell i hi)))).trans (hcell i hi)⟩

theorem info5 : (Tryd.prog.info? 5).map (fun i => (i.zero, i.size, i.bytes)) = some (some (.int .u8 0), 1, 1) := by kernel_rfl

set_option maxRecDepth 100000 in
theorem cloneB_zero (a : Addr) (c : Nat) (w : World) :
    Calls Tryd.prog 22 #[.slice (some a) 0 c] w fun e w' => ∃ v, e = .returned v ∧ OwnB w v [] w' := by
  obtain ⟨i0, hi, hz0, hz1, hz2⟩ := info_parts info5
  have q22 : ∀ (w : World) (a : Option Addr) (n c n' c' : Nat), (binOp .eql 44 (.slice a n c) (.slice none n' c')).run Tryd.prog w = .ok (.bool a.isNone) w := fun w a n c n' c' => Lib.run_eql_slice_nil w _ _ a n c n' c' Tryd.underlying44
  go_enter Tryd.func22, Tryd.ntmps22
  go_wp2_with (at_builtin; refine wpList_append_own _ rfl _ _ 44 rfl w.heap.size 5 i0 (.int .u8 0) 1 1 Tryd.underlying44 hi hz0 hz1 hz2 rfl (by decide) _ _ _ rfl (World.ownsRow_made w #[] 0 (Nat.le_refl _) (Nat.zero_le _) rfl) a 0 c [] rfl rfl (by intro j u hj; simp at hj) (by intro u hu; cases hu) (by unfold maxLen; omega) (by omega) (by simp) ?_)
  intro v' w1 hown hgrow hnil
  go_wp2
  go_ret
  exact ⟨v', rfl, by simpa [Lib.byteCells] using hown, ((Below.refl _ w).alloc (Nat.le_refl _) _).grown hgrow (by simp) (by intro k hk; simp [Value.ownBlock] at hk; omega)⟩

noncomputable def byteI : TypeInfo := (Tryd.prog.info? 5).get (by kernel_rfl)

theorem cloneB_in {w : World} {a : Option Addr} {l : List UInt8} (h : BytesAt w a l) (cap : Nat) (hl : l.length ≤ 140737488355328) :
    Calls Tryd.prog 22 #[.slice a l.length cap] w fun e w' => ∃ v, e = .returned v ∧ OwnB w v l w' := by
  rcases h with rfl | ⟨b, off, rfl, hcell⟩
  · cases a with
    | none =>
      exact (AnyE.slices_Clone_nil Tryd.laysCloneB _ cap w).mono fun e w' ⟨he, hw⟩ => ⟨_, he, by subst hw; exact ⟨World.ownsRow_nil _ _ _ _, ⟨rfl, rfl, rfl, Nat.le_refl _, fun _ _ => rfl⟩⟩⟩
    | some a => exact cloneB_zero a cap w
  · refine (AnyE.slices_Clone Tryd.laysCloneB byteI (.int .u8 0) 1 1 (by kernel_rfl) (by kernel_rfl) (by kernel_rfl) (by kernel_rfl) rfl (by decide) Tryd.sizeOf5 b off l.length cap (Lib.byteCells l) w (by simp [Lib.byteCells]) (by unfold maxLen; omega) (by omega) ?_ ?_).mono fun e w' ⟨v, he, ho, _, hb⟩ => ⟨v, he, ho, hb⟩
    · intro j u hu
      have hj : j < l.length := by
        have := (List.getElem?_eq_some_iff.1 hu).1
        simpa [Lib.byteCells] using this
      rw [hcell j hj]
      simp [Lib.byteCells, hj] at hu
      simp [List.getD, hj, hu]
    · intro u hu
      simp [Lib.byteCells] at hu
      obtain ⟨c, _, rfl⟩ := hu
      rfl

set_option maxHeartbeats 1000000 in
set_option maxRecDepth 100000 in
/-- Put. -/
theorem put_in {w : World} {a : Option Addr} {l : List UInt8} (h : BytesAt w a l) (cap x : Nat) (hx : x < 18446744073709551616) (hl : l.length + 10 ≤ 140737488355328) :
    Calls Tryd.prog 13 #[.slice a l.length cap, .int .u64 x] w fun e w' => ∃ v, e = .returned v ∧ OwnB w v (l ++ Lib.uvarint x) w' := by
  obtain ⟨i0, hi, hz0, hz1, hz2⟩ := info_parts info5
  have hlen := Lib.uvarint_length64 hx
  go_enter Tryd.func13, Tryd.ntmps13
  go_wp2_with fail
  refine (cloneB_in h cap (by omega)).mono ?_
  rintro e w1 ⟨v0, rfl, h1⟩
  have H1 := Lib.hid h1
  clear h1
  go_wp2_with fail
  go_loopw [0, 1] (fun vb vx wr => ∃ (y : Nat) (pre : List UInt8), vx = .int .u64 y ∧ y ≤ x ∧ Lib.uvarint x = pre ++ Lib.uvarint y ∧ wr.ownsRow w.heap.size 5 1 vb (l.length + pre.length) (Lib.byteCells l ++ Lib.byteCells pre) ∧ Below w.heap.size w wr)
    (fun _ vx _ => (intOf vx).toNat)
  case atStart => exact ⟨x, [], rfl, Nat.le_refl _, rfl, by simpa [Lib.byteCells] using H1.out.1, H1.out.2⟩
  case round =>
    obtain ⟨y, pre, rfl, hy, hsplit, hown1, hnx⟩ := hrel
    have hpl : pre.length + (Lib.uvarint y).length ≤ 10 := by
      have h2 := congrArg List.length hsplit
      rw [List.length_append] at h2
      omega
    have hyp := Lib.uvarint_pos y
    by_cases h128 : 128 ≤ y
    · have hor : bits .or .u8 ((y : Int) % 256) 128 = ((y % 128 + 128 : Nat) : Int) := by
        rw [Lib.u8_or128_any _ (by omega) (by omega)]
        omega
      go_wp2_with (at_builtin; refine wpList_append_own _ rfl _ _ 44 rfl w.heap.size 5 i0 (.int .u8 0) 1 1 Tryd.underlying44 hi hz0 hz1 hz2 rfl (by decide) _ _ _ rfl (hown1.alloc _) ⟨wr.heap.size, 0, none⟩ 1 1 [Value.int .u8 ((y % 128 + 128 : Nat) : Int)] rfl rfl ?c1 ?c2 ?c3 ?c4 ?c5 ?_)
      case c1 =>
        intro j u hj
        match j, hj with
        | 0, hj => simp at hj; subst hj; simp [Addr.add]
      case c2 => intro u hu; simp at hu; subst hu; rfl
      case c3 => unfold maxLen; omega
      case c4 => omega
      case c5 => have := hnx.size; simp; omega
      intro v' w2 hown' hgrow _
      have hnx1 : Below w.heap.size w w2 := (hnx.alloc (by have := hnx.size; omega) _).grown hgrow (by have := hnx.size; simp; omega) (fun k hk => (hown1.lt k hk).1)
      go_wp2
      go_roundw
      case rel =>
        refine ⟨y / 128, pre ++ [(y % 128 + 128).toUInt8], by go_num, by omega, by rw [hsplit, Lib.uvarint_big h128]; simp, ?_, hnx1⟩
        have ec : ((y % 128 + 128 : Nat) : Int) = (y : Int) % 128 + 128 := by omega
        rw [Lib.byteCells_snoc pre (by omega), List.length_append, List.length_singleton, ← Nat.add_assoc, ec]
        exact hown'
      case measure => simp [intOf]; omega
    · have hsm : Lib.uvarint y = [y.toUInt8] := Lib.uvarint_small (by omega)
      go_wp2_with (at_builtin; refine wpList_append_own _ rfl _ _ 44 rfl w.heap.size 5 i0 (.int .u8 0) 1 1 Tryd.underlying44 hi hz0 hz1 hz2 rfl (by decide) _ _ _ rfl (hown1.alloc _) ⟨wr.heap.size, 0, none⟩ 1 1 [Value.int .u8 (y : Int)] rfl rfl ?c1 ?c2 ?c3 ?c4 ?c5 ?_)
      case c1 =>
        intro j u hj
        match j, hj with
        | 0, hj => simp at hj; subst hj; simp [Addr.add]
      case c2 => intro u hu; simp at hu; subst hu; rfl
      case c3 => unfold maxLen; omega
      case c4 => omega
      case c5 => have := hnx.size; simp; omega
      intro v' w2 hown' hgrow _
      have hnx1 : Below w.heap.size w w2 := (hnx.alloc (by have := hnx.size; omega) _).grown hgrow (by have := hnx.size; simp; omega) (fun k hk => (hown1.lt k hk).1)
      go_wp2
      go_ret
      refine ⟨v', rfl, ?_, hnx1⟩
      rw [hsplit, hsm, Lib.byteCells_append, Lib.byteCells_snoc pre (by omega), List.length_append, List.length_append, List.length_singleton, ← Nat.add_assoc]
      exact hown'

/-- Take: what it answers. -/
def takeB (i acc : Nat) : List UInt8 → Nat × Nat × Int
  | [] => (0, 0, 10)
  | b :: r =>
    if i = 9 ∧ 1 < b.toNat then (0, 0, 11)
    else if b.toNat < 128 then
      if b.toNat = 0 ∧ 0 < i then (0, 0, 11)
      else (acc + b.toNat * 2 ^ (7 * i), i + 1, 0)
    else takeB (i + 1) (acc + b.toNat % 128 * 2 ^ (7 * i)) r
end Go.Proofs.YtieahneoofdneaaDoor
