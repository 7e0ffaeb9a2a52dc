/-
  Put of bytes up to what the platform bears; the walk of IdsAdds. Helper text; the conditions are those typed.
-/
import Derived.Test.YtieahneoofdneaaLawB
import Derived.Deep.DeepAppendWide
namespace Go.Proofs.Ytieahneoofdneaa
set_option linter.unusedVariables false
set_option linter.unusedSimpArgs false
open Go.RowKit Go.Maps Go.Shelf Go.Sort

set_option maxRecDepth 100000 in
theorem cloneB_wide {w : World} {a : Option Addr} {l : List UInt8} (h : BytesAt w a l) (cap : Nat) (hl : l.length ≤ 225179981368000) :
    Calls Try.prog 23 #[.slice a l.length cap] w fun e w' => ∃ v, e = .returned v ∧ OwnB w v l w' := by
  rcases h with rfl | ⟨b, off, rfl, hcell⟩
  · exact cloneB_in (.inl rfl) cap (by simp)
  · obtain ⟨i0, hi, hz0, hz1, hz2⟩ := info_parts info5
    have q22 : ∀ (w : World) (a : Option Addr) (n c n' c' : Nat), (binOp .eql 23 (.slice a n c) (.slice none n' c')).run Try.prog w = .ok (.bool a.isNone) w := fun w a n c n' c' => Lib.run_eql_slice_nil w _ _ a n c n' c' Try.underlying23
    have hnews : ∀ j u, (Lib.byteCells l)[j]? = some u → (w.alloc (.cells #[] 5)).cell? ((⟨b, off, none⟩ : Addr).add j) = some u := by
      intro j u hu
      have hj : j < l.length := by
        have := (List.getElem?_eq_some_iff.1 hu).1
        simpa [Lib.byteCells] using this
      have e : (⟨b, off, none⟩ : Addr).add j = ⟨b, off + j, none⟩ := by unfold Addr.add; split <;> simp_all
      rw [e]
      refine cell_alloc ?_
      rw [hcell j hj]
      simp [Lib.byteCells, hj] at hu
      simp [List.getD, hj, hu]
    have h1 : ∀ u ∈ Lib.byteCells l, u.oneCell' = true := by
      intro u hu
      simp [Lib.byteCells] at hu
      obtain ⟨c, _, rfl⟩ := hu
      rfl
    have HN := Lib.hid hnews
    have H1 := Lib.hid h1
    clear hcell hnews h1
    go_enter Try.func23, Try.ntmps23
    go_wp2_with (at_builtin; refine wpList_append_own_wide _ rfl _ _ 23 rfl w.heap.size 5 i0 (.int .u8 0) 1 1 Try.underlying23 hi hz0 hz1 hz2 rfl (by decide) _ _ _ rfl (World.ownsRow_made w #[] 0 (Nat.le_refl _) (Nat.zero_le _) rfl) ⟨b, off, none⟩ l.length cap (Lib.byteCells l) rfl (by simp [Lib.byteCells]) HN.out H1.out (by unfold maxLen; omega) (by omega) (by simp) ?_)
    intro v' w1 hown hgrow hnil
    go_wp2
    go_ret
    exact ⟨v', rfl, by simpa using hown, ((Below.refl _ w).alloc (Nat.le_refl _) _).grown hgrow (by simp) (by intro k hk; simp [Value.ownBlock] at hk; omega)⟩

set_option maxHeartbeats 1000000 in
set_option maxRecDepth 100000 in
/-- Put, of whatever bytes the platform bears. -/
theorem put_wide {w : World} {a : Option Addr} {l : List UInt8} (h : BytesAt w a l) (cap x : Nat) (hx : x < 18446744073709551616) (hl : l.length + 10 ≤ 225179981368000) :
    Calls Try.prog 12 #[.slice a l.length cap, .int .u64 x] w fun e w' => ∃ v, e = .returned v ∧ OwnB w v (l ++ Lib.uvarint x) w' := by
  obtain ⟨i0, hi, hz0, hz1, hz2⟩ := info_parts info5
  have hlen := Lib.uvarint_length64 hx
  go_enter Try.func12, Try.ntmps12
  go_wp2_with fail
  refine (cloneB_wide h cap (by omega)).mono ?_
  rintro e w1 ⟨v0, rfl, h1⟩
  have H1 := Lib.hid h1
  clear h1
  go_wp2_with fail
  go_loopw [0, 1] (fun vb vx wr => ∃ (y : Nat) (pre : List UInt8), vx = .int .u64 y ∧ y ≤ x ∧ Lib.uvarint x = pre ++ Lib.uvarint y ∧ wr.ownsRow w.heap.size 5 1 vb (l.length + pre.length) (Lib.byteCells l ++ Lib.byteCells pre) ∧ Below w.heap.size w wr)
    (fun _ vx _ => (intOf vx).toNat)
  case atStart => exact ⟨x, [], rfl, Nat.le_refl _, rfl, by simpa [Lib.byteCells] using H1.out.1, H1.out.2⟩
  case round =>
    obtain ⟨y, pre, rfl, hy, hsplit, hown1, hnx⟩ := hrel
    have hpl : pre.length + (Lib.uvarint y).length ≤ 10 := by
      have h2 := congrArg List.length hsplit
      rw [List.length_append] at h2
      omega
    have hyp := Lib.uvarint_pos y
    by_cases h128 : 128 ≤ y
    · have hor : bits .or .u8 ((y : Int) % 256) 128 = ((y % 128 + 128 : Nat) : Int) := by
        rw [Lib.u8_or128_any _ (by omega) (by omega)]
        omega
      go_wp2_with (at_builtin; refine wpList_append_own_wide _ rfl _ _ 23 rfl w.heap.size 5 i0 (.int .u8 0) 1 1 Try.underlying23 hi hz0 hz1 hz2 rfl (by decide) _ _ _ rfl (hown1.alloc _) ⟨wr.heap.size, 0, none⟩ 1 1 [Value.int .u8 ((y % 128 + 128 : Nat) : Int)] rfl rfl ?c1 ?c2 ?c3 ?c4 ?c5 ?_)
      case c1 =>
        intro j u hj
        match j, hj with
        | 0, hj => simp at hj; subst hj; simp [Addr.add]
      case c2 => intro u hu; simp at hu; subst hu; rfl
      case c3 => unfold maxLen; omega
      case c4 => omega
      case c5 => have := hnx.size; simp; omega
      intro v' w2 hown' hgrow _
      have hnx1 : Below w.heap.size w w2 := (hnx.alloc (by have := hnx.size; omega) _).grown hgrow (by have := hnx.size; simp; omega) (fun k hk => (hown1.lt k hk).1)
      go_wp2
      go_roundw
      case rel =>
        refine ⟨y / 128, pre ++ [(y % 128 + 128).toUInt8], by go_num, by omega, by rw [hsplit, Lib.uvarint_big h128]; simp, ?_, hnx1⟩
        have ec : ((y % 128 + 128 : Nat) : Int) = (y : Int) % 128 + 128 := by omega
        rw [Lib.byteCells_snoc pre (by omega), List.length_append, List.length_singleton, ← Nat.add_assoc, ec]
        exact hown'
      case measure => simp [intOf]; omega
    · have hsm : Lib.uvarint y = [y.toUInt8] := Lib.uvarint_small (by omega)
      go_wp2_with (at_builtin; refine wpList_append_own_wide _ rfl _ _ 23 rfl w.heap.size 5 i0 (.int .u8 0) 1 1 Try.underlying23 hi hz0 hz1 hz2 rfl (by decide) _ _ _ rfl (hown1.alloc _) ⟨wr.heap.size, 0, none⟩ 1 1 [Value.int .u8 (y : Int)] rfl rfl ?c1 ?c2 ?c3 ?c4 ?c5 ?_)
      case c1 =>
        intro j u hj
        match j, hj with
        | 0, hj => simp at hj; subst hj; simp [Addr.add]
      case c2 => intro u hu; simp at hu; subst hu; rfl
      case c3 => unfold maxLen; omega
      case c4 => omega
      case c5 => have := hnx.size; simp; omega
      intro v' w2 hown' hgrow _
      have hnx1 : Below w.heap.size w w2 := (hnx.alloc (by have := hnx.size; omega) _).grown hgrow (by have := hnx.size; simp; omega) (fun k hk => (hown1.lt k hk).1)
      go_wp2
      go_ret
      refine ⟨v', rfl, ?_, hnx1⟩
      rw [hsplit, hsm, Lib.byteCells_append, Lib.byteCells_snoc pre (by omega), List.length_append, List.length_append, List.length_singleton, ← Nat.add_assoc]
      exact hown'

end Go.Proofs.Ytieahneoofdneaa
