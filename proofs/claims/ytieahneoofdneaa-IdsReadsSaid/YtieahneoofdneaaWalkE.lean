/-
  The document's Bytes; the walk of IdsReads. Helper text; the conditions are those typed.
-/
import Derived.Test.YtieahneoofdneaaWalkD
import Derived.Test.YtieahneoofdneaaLawB
namespace Go.Proofs.Ytieahneoofdneaa
set_option linter.unusedVariables false
set_option linter.unusedSimpArgs false
open Go.RowKit Go.Maps Go.Shelf Go.Sort

theorem OwnB.keep {w0 w w' : World} {v : Value} {l : List UInt8} (h : OwnB w0 v l w) (hc : Below w.heap.size w w') : OwnB w0 v l w' :=
  ⟨ownsRow_block h.1 (fun g hg => hc.block g (h.1.lt g hg).2), h.2.trans (Below.to hc h.2.size)⟩

set_option maxHeartbeats 1000000 in
set_option maxRecDepth 100000 in
/-- Bytes. -/
theorem rbytes_in (w : World) (x : Nat) (hx : x < 18446744073709551616) :
    Calls Try.prog 13 #[.int .u64 x] w fun e w' => ∃ v, e = .returned v ∧ OwnB w v (Lib.uvarint x) w' := by
  obtain ⟨i0, hi, hz0, hz1, hz2⟩ := info_parts info5
  have hlen := Lib.uvarint_length64 hx
  go_enter Try.func13, Try.ntmps13
  go_wp2_with fail
  go_loopw [0, 3] (fun vx vb wr => ∃ (y : Nat) (pre : List UInt8), vx = .int .u64 y ∧ y ≤ x ∧ Lib.uvarint x = pre ++ Lib.uvarint y ∧ wr.ownsRow w.heap.size 5 1 vb pre.length (Lib.byteCells pre) ∧ Below w.heap.size w wr)
    (fun vx _ _ => (intOf vx).toNat)
  case atStart => exact ⟨x, [], rfl, Nat.le_refl _, rfl, World.ownsRow_nil _ _ _ _, Below.refl _ _⟩
  case round =>
    obtain ⟨y, pre, rfl, hy, hsplit, hown1, hnx⟩ := hrel
    have hpl : pre.length + (Lib.uvarint y).length ≤ 10 := by
      have h2 := congrArg List.length hsplit
      rw [List.length_append] at h2
      omega
    have hyp := Lib.uvarint_pos y
    by_cases h128 : 128 ≤ y
    · go_wp2_with (at_builtin; refine wpList_append_own _ rfl _ _ 23 rfl w.heap.size 5 i0 (.int .u8 0) 1 1 Try.underlying23 hi hz0 hz1 hz2 rfl (by decide) _ _ _ rfl (hown1.alloc _) ⟨wr.heap.size, 0, none⟩ 1 1 [Value.int .u8 ((y % 128 + 128 : Nat) : Int)] rfl rfl ?c1 ?c2 ?c3 ?c4 ?c5 ?_)
      case c1 =>
        intro j u hj
        match j, hj with
        | 0, hj => simp at hj; subst hj; simp [Addr.add] <;> omega
      case c2 => intro u hu; simp at hu; subst hu; rfl
      case c3 => unfold maxLen; omega
      case c4 => omega
      case c5 => have := hnx.size; simp; omega
      intro v' w2 hown' hgrow _
      have hnx1 : Below w.heap.size w w2 := (hnx.alloc (by have := hnx.size; omega) _).grown hgrow (by have := hnx.size; simp; omega) (fun k hk => (hown1.lt k hk).1)
      go_wp2
      go_roundw
      case rel =>
        refine ⟨y / 128, pre ++ [(y % 128 + 128).toUInt8], by go_num, by omega, by rw [hsplit, Lib.uvarint_big h128]; simp, ?_, hnx1⟩
        have ec : ((y % 128 + 128 : Nat) : Int) = (y : Int) % 128 + 128 := by omega
        rw [Lib.byteCells_snoc pre (by omega), List.length_append, List.length_singleton, ec]
        exact hown'
      case measure => simp [intOf]; omega
    · have hsm : Lib.uvarint y = [y.toUInt8] := Lib.uvarint_small (by omega)
      go_wp2_with (at_builtin; refine wpList_append_own _ rfl _ _ 23 rfl w.heap.size 5 i0 (.int .u8 0) 1 1 Try.underlying23 hi hz0 hz1 hz2 rfl (by decide) _ _ _ rfl (hown1.alloc _) ⟨wr.heap.size, 0, none⟩ 1 1 [Value.int .u8 (y : Int)] rfl rfl ?c1 ?c2 ?c3 ?c4 ?c5 ?_)
      case c1 =>
        intro j u hj
        match j, hj with
        | 0, hj => simp at hj; subst hj; simp [Addr.add]
      case c2 => intro u hu; simp at hu; subst hu; rfl
      case c3 => unfold maxLen; omega
      case c4 => omega
      case c5 => have := hnx.size; simp; omega
      intro v' w2 hown' hgrow _
      have hnx1 : Below w.heap.size w w2 := (hnx.alloc (by have := hnx.size; omega) _).grown hgrow (by have := hnx.size; simp; omega) (fun k hk => (hown1.lt k hk).1)
      go_wp2
      go_ret
      refine ⟨v', rfl, ?_, hnx1⟩
      rw [hsplit, hsm, Lib.byteCells_snoc pre (by omega), List.length_append, List.length_singleton]
      exact hown'

set_option maxHeartbeats 1000000 in
set_option maxRecDepth 100000 in
theorem idsReads_walk (w : World) (n : Nat) (hn : n < 18446744073709551616) (u : Value) (l : List UInt8) (hu : ReadsB w u l) (hl : l.length + 10 ≤ 140737488355328) :
    Calls Try.prog 4 #[u, .int .u64 n] w fun e w' => e = .returned (.bool true) ∧ Below w.heap.size w w' := by
  have hA := Lib.uvarint_length64 hn
  have hml : l.length ≤ maxLen := by unfold maxLen; omega
  obtain ⟨au, cu, rfl, _⟩ := hu.at
  go_enter Try.func4, Try.ntmps4
  go_wp2_with fail
  refine (awake_any w).mono ?_
  rintro e w1 ⟨rfl, h1⟩
  have U1 := Lib.hid (hu.below h1)
  have B1 := Lib.hid h1
  clear h1 hu
  obtain ⟨a0, c0, e0, hb0⟩ := U1.out.at
  obtain ⟨rfl, _, rfl⟩ := Value.slice.inj e0
  have UB := Lib.hid hb0
  clear e0 hb0
  go_wp2_with fail
  refine (take_in UB.out cu hml).mono ?_
  rintro e w1' ⟨rfl, rfl⟩
  go_wp2_with fail
  refine (rtake_in UB.out cu hml).mono ?_
  rintro e w1' ⟨rfl, rfl⟩
  generalize takeB 0 0 l = T
  have hmade := OwnB.made w1
  have HM := Lib.hid hmade
  have UA := Lib.hid (U1.out.below hmade.2)
  clear hmade
  go_wp2_with (at_builtin; refine wpList_appB (w0 := w1) rfl _ _ rfl _ (.slice au l.length cu) [] l rfl rfl HM.out UA.out (by simp; omega) ?_; intro v2 w2 h2 hg2; rw [List.nil_append] at h2; obtain ⟨a2, c2, rfl, hb2, hc2, hm2⟩ := h2.slice2; have U2 := Lib.hid (U1.out.below h2.2); have B2 := Lib.hid (B1.out.trans (Below.to h2.2 B1.out.size)); have R2 := Lib.hid hb2; have hcc2 : (l.length : Int) ≤ (c2 : Int) := (by omega); clear h2 hb2 hg2)
  refine (put_in R2.out c2 n hn (by omega)).mono ?_
  rintro e w3 ⟨v3, rfl, h3⟩
  obtain ⟨a3, c3, rfl, hb3⟩ := h3.slice
  have U3 := Lib.hid (U2.out.below h3.2)
  have B3 := Lib.hid (B2.out.trans (Below.to h3.2 B2.out.size))
  have R3 := Lib.hid (R2.out.below h3.2)
  have G3 := Lib.hid hb3
  clear h3 hb3 U2 B2 R2 HM UA UB U1 B1
  have hmade := OwnB.made w3
  have HM := Lib.hid hmade
  have UA := Lib.hid (U3.out.below hmade.2)
  clear hmade
  go_wp2_with (at_builtin; refine wpList_appB (w0 := w3) rfl _ _ rfl _ (.slice au l.length cu) [] l rfl rfl HM.out UA.out (by simp; omega) ?_; intro v4 w4 h4 hg4; rw [List.nil_append] at h4; have H4 := Lib.hid h4; clear h4 hg4)
  refine (rbytes_in w4 n hn).mono ?_
  rintro e w5 ⟨v5, rfl, h5⟩
  have H5 := Lib.hid (H4.out.keep h5.2)
  have W5 := Lib.hid h5.reads
  clear h5
  go_wp2_with (at_builtin; refine wpList_appB (w0 := w3) rfl _ _ rfl v4 v5 l (Lib.uvarint n) rfl rfl H5.out W5.out (by omega) ?_; intro v6 w6 h6 hg6; obtain ⟨a6, c6, rfl, hb6⟩ := h6.slice; have U6 := Lib.hid (U3.out.below h6.2); have B6 := Lib.hid (B3.out.trans (Below.to h6.2 B3.out.size)); have k2 := convB (R3.out.below h6.2) c2; have k3 := convB (G3.out.below h6.2) c3; have k6 := convB hb6 c6; obtain ⟨a0, c0, e0, hb0⟩ := U6.out.at; obtain ⟨rfl, _, rfl⟩ := Value.slice.inj e0; have k0 := convB hb0 cu; rw [List.length_append] at k3 k6; clear h6 hb6 hg6 e0 hb0)
  go_wp2
  go_ret
  exact ⟨by simp, B6.out⟩
end Go.Proofs.Ytieahneoofdneaa
