/-
  Put and Take of bytes: the contracts, and their plain laws. Helper text; the conditions are those typed.
-/
import Derived.Test.YtbdankpkdhhlmaaGreatPoolLaw
import Derived.Test.YtbdankpkdhhlmaaGreatShelf2
import Derived.Lib.VarintMem
import Derived.Lib.VarintBits
import Derived.Lib.EndianBits
import Derived.Laws.AppendOwnNone
import Derived.Laws.BytesArg
import Derived.Laws.IdiomStrings
import Derived.ChangeArms
import Derived.Deep.Slices
namespace Go.Proofs.YtbdankpkdhhlmaaGreat
set_option linter.unusedVariables false
set_option linter.unusedSimpArgs false
open Go.RowKit Go.Maps Go.Shelf Go.Sort

theorem below_alloc (w : World) (o : Obj) : Below w.heap.size w (w.alloc o) := (Below.refl _ w).alloc (Nat.le_refl _) o


/-- The slice with address a reads as the bytes l. -/
def BytesAt (w : World) (a : Option Addr) (l : List UInt8) : Prop :=
  l = [] ∨ ∃ b off, a = some ⟨b, off, none⟩ ∧ ∀ i, i < l.length → w.cell? ⟨b, off + i, none⟩ = some (.int .u8 (l.getD i 0).toNat)

/-- v is a slice of bytes in memory made since w0, and of what was there nothing has turned. -/
def OwnB (w0 : World) (v : Value) (l : List UInt8) (w : World) : Prop := w.ownsRow w0.heap.size 5 1 v l.length (Lib.byteCells l) ∧ Below w0.heap.size w0 w

theorem OwnB.slice {w0 w : World} {v : Value} {l : List UInt8} (h : OwnB w0 v l w) : ∃ a c, v = .slice a l.length c ∧ BytesAt w a l := by
  obtain ⟨h, _⟩ := h
  rcases h.2 with ⟨rfl, h0⟩ | ⟨g, cap, cur, rfl, _⟩
  · exact ⟨none, 0, by rw [h0], .inl (List.length_eq_zero_iff.1 h0)⟩
  · refine ⟨_, _, rfl, .inr ⟨g, 0, rfl, fun i hi => ?_⟩⟩
    have := h.cellAt i (by omega)
    rw [Nat.zero_add, this]
    simp [Lib.byteCells, List.getD, List.getElem?_eq_getElem hi]

theorem BytesAt.below {w w' : World} {a : Option Addr} {l : List UInt8} (h : BytesAt w a l) (hc : Below w.heap.size w w') : BytesAt w' a l := by
  rcases h with h | ⟨b, off, rfl, hcell⟩
  · exact .inl h
  · exact .inr ⟨b, off, rfl, fun i hi => (World.cell?_of_block (w := w) (hc.block b (World.block_lt_of_cell? w _ (hcell i hi)))).trans (hcell i hi)⟩

theorem info5 : (Tryz.prog.info? 5).map (fun i => (i.zero, i.size, i.bytes)) = some (some (.int .u8 0), 1, 1) := by kernel_rfl

set_option maxRecDepth 100000 in
theorem cloneB_zero (a : Addr) (c : Nat) (w : World) :
    Calls Tryz.prog 55 #[.slice (some a) 0 c] w fun e w' => ∃ v, e = .returned v ∧ OwnB w v [] w' := by
  obtain ⟨i0, hi, hz0, hz1, hz2⟩ := info_parts info5
  have q22 : ∀ (w : World) (a : Option Addr) (n c n' c' : Nat), (binOp .eql 23 (.slice a n c) (.slice none n' c')).run Tryz.prog w = .ok (.bool a.isNone) w := fun w a n c n' c' => Lib.run_eql_slice_nil w _ _ a n c n' c' Tryz.underlying23
  go_enter Tryz.func55, Tryz.ntmps55
  go_wp2_with (at_builtin; refine wpList_append_own _ rfl _ _ 23 rfl w.heap.size 5 i0 (.int .u8 0) 1 1 Tryz.underlying23 hi hz0 hz1 hz2 rfl (by decide) _ _ _ rfl (World.ownsRow_made w #[] 0 (Nat.le_refl _) (Nat.zero_le _) rfl) a 0 c [] rfl rfl (by intro j u hj; simp at hj) (by intro u hu; cases hu) (by unfold maxLen; omega) (by omega) (by simp) ?_)
  intro v' w1 hown hgrow hnil
  go_wp2
  go_ret
  exact ⟨v', rfl, by simpa [Lib.byteCells] using hown, ((Below.refl _ w).alloc (Nat.le_refl _) _).grown hgrow (by simp) (by intro k hk; simp [Value.ownBlock] at hk; omega)⟩

noncomputable def byteI : TypeInfo := (Tryz.prog.info? 5).get (by kernel_rfl)

theorem cloneB_in {w : World} {a : Option Addr} {l : List UInt8} (h : BytesAt w a l) (cap : Nat) (hl : l.length ≤ 140737488355328) :
    Calls Tryz.prog 55 #[.slice a l.length cap] w fun e w' => ∃ v, e = .returned v ∧ OwnB w v l w' := by
  rcases h with rfl | ⟨b, off, rfl, hcell⟩
  · cases a with
    | none =>
      exact (AnyE.slices_Clone_nil Tryz.layCloneB _ cap w).mono fun e w' ⟨he, hw⟩ => ⟨_, he, by subst hw; exact ⟨World.ownsRow_nil _ _ _ _, ⟨rfl, rfl, rfl, Nat.le_refl _, fun _ _ => rfl⟩⟩⟩
    | some a => exact cloneB_zero a cap w
  · refine (AnyE.slices_Clone Tryz.layCloneB byteI (.int .u8 0) 1 1 (by kernel_rfl) (by kernel_rfl) (by kernel_rfl) (by kernel_rfl) rfl (by decide) Tryz.sizeOf5 b off l.length cap (Lib.byteCells l) w (by simp [Lib.byteCells]) (by unfold maxLen; omega) (by omega) ?_ ?_).mono fun e w' ⟨v, he, ho, _, hb⟩ => ⟨v, he, ho, hb⟩
    · intro j u hu
      have hj : j < l.length := by
        have := (List.getElem?_eq_some_iff.1 hu).1
        simpa [Lib.byteCells] using this
      rw [hcell j hj]
      simp [Lib.byteCells, hj] at hu
      simp [List.getD, hj, hu]
    · intro u hu
      simp [Lib.byteCells] at hu
      obtain ⟨c, _, rfl⟩ := hu
      rfl

set_option maxHeartbeats 1000000 in
set_option maxRecDepth 100000 in
/-- Put. -/
theorem put_in {w : World} {a : Option Addr} {l : List UInt8} (h : BytesAt w a l) (cap x : Nat) (hx : x < 18446744073709551616) (hl : l.length + 10 ≤ 140737488355328) :
    Calls Tryz.prog 31 #[.slice a l.length cap, .int .u64 x] w fun e w' => ∃ v, e = .returned v ∧ OwnB w v (l ++ Lib.uvarint x) w' := by
  obtain ⟨i0, hi, hz0, hz1, hz2⟩ := info_parts info5
  have hlen := Lib.uvarint_length64 hx
  go_enter Tryz.func31, Tryz.ntmps31
  go_wp2_with fail
  refine (cloneB_in h cap (by omega)).mono ?_
  rintro e w1 ⟨v0, rfl, h1⟩
  have H1 := Lib.hid h1
  clear h1
  go_wp2_with fail
  go_loopw [0, 1] (fun vb vx wr => ∃ (y : Nat) (pre : List UInt8), vx = .int .u64 y ∧ y ≤ x ∧ Lib.uvarint x = pre ++ Lib.uvarint y ∧ wr.ownsRow w.heap.size 5 1 vb (l.length + pre.length) (Lib.byteCells l ++ Lib.byteCells pre) ∧ Below w.heap.size w wr)
    (fun _ vx _ => (intOf vx).toNat)
  case atStart => exact ⟨x, [], rfl, Nat.le_refl _, rfl, by simpa [Lib.byteCells] using H1.out.1, H1.out.2⟩
  case round =>
    obtain ⟨y, pre, rfl, hy, hsplit, hown1, hnx⟩ := hrel
    have hpl : pre.length + (Lib.uvarint y).length ≤ 10 := by
      have h2 := congrArg List.length hsplit
      rw [List.length_append] at h2
      omega
    have hyp := Lib.uvarint_pos y
    by_cases h128 : 128 ≤ y
    · have hor : bits .or .u8 ((y : Int) % 256) 128 = ((y % 128 + 128 : Nat) : Int) := by
        rw [Lib.u8_or128_any _ (by omega) (by omega)]
        omega
      go_wp2_with (at_builtin; refine wpList_append_own _ rfl _ _ 23 rfl w.heap.size 5 i0 (.int .u8 0) 1 1 Tryz.underlying23 hi hz0 hz1 hz2 rfl (by decide) _ _ _ rfl (hown1.alloc _) ⟨wr.heap.size, 0, none⟩ 1 1 [Value.int .u8 ((y % 128 + 128 : Nat) : Int)] rfl rfl ?c1 ?c2 ?c3 ?c4 ?c5 ?_)
      case c1 =>
        intro j u hj
        match j, hj with
        | 0, hj => simp at hj; subst hj; simp [Addr.add]
      case c2 => intro u hu; simp at hu; subst hu; rfl
      case c3 => unfold maxLen; omega
      case c4 => omega
      case c5 => have := hnx.size; simp; omega
      intro v' w2 hown' hgrow _
      have hnx1 : Below w.heap.size w w2 := (hnx.alloc (by have := hnx.size; omega) _).grown hgrow (by have := hnx.size; simp; omega) (fun k hk => (hown1.lt k hk).1)
      go_wp2
      go_roundw
      case rel =>
        refine ⟨y / 128, pre ++ [(y % 128 + 128).toUInt8], by go_num, by omega, by rw [hsplit, Lib.uvarint_big h128]; simp, ?_, hnx1⟩
        have ec : ((y % 128 + 128 : Nat) : Int) = (y : Int) % 128 + 128 := by omega
        rw [Lib.byteCells_snoc pre (by omega), List.length_append, List.length_singleton, ← Nat.add_assoc, ec]
        exact hown'
      case measure => simp [intOf]; omega
    · have hsm : Lib.uvarint y = [y.toUInt8] := Lib.uvarint_small (by omega)
      go_wp2_with (at_builtin; refine wpList_append_own _ rfl _ _ 23 rfl w.heap.size 5 i0 (.int .u8 0) 1 1 Tryz.underlying23 hi hz0 hz1 hz2 rfl (by decide) _ _ _ rfl (hown1.alloc _) ⟨wr.heap.size, 0, none⟩ 1 1 [Value.int .u8 (y : Int)] rfl rfl ?c1 ?c2 ?c3 ?c4 ?c5 ?_)
      case c1 =>
        intro j u hj
        match j, hj with
        | 0, hj => simp at hj; subst hj; simp [Addr.add]
      case c2 => intro u hu; simp at hu; subst hu; rfl
      case c3 => unfold maxLen; omega
      case c4 => omega
      case c5 => have := hnx.size; simp; omega
      intro v' w2 hown' hgrow _
      have hnx1 : Below w.heap.size w w2 := (hnx.alloc (by have := hnx.size; omega) _).grown hgrow (by have := hnx.size; simp; omega) (fun k hk => (hown1.lt k hk).1)
      go_wp2
      go_ret
      refine ⟨v', rfl, ?_, hnx1⟩
      rw [hsplit, hsm, Lib.byteCells_append, Lib.byteCells_snoc pre (by omega), List.length_append, List.length_append, List.length_singleton, ← Nat.add_assoc]
      exact hown'

/-- Take: what it answers. -/
def takeB (i acc : Nat) : List UInt8 → Nat × Nat × Int
  | [] => (0, 0, 10)
  | b :: r =>
    if i = 9 ∧ 1 < b.toNat then (0, 0, 11)
    else if b.toNat < 128 then
      if b.toNat = 0 ∧ 0 < i then (0, 0, 11)
      else (acc + b.toNat * 2 ^ (7 * i), i + 1, 0)
    else takeB (i + 1) (acc + b.toNat % 128 * 2 ^ (7 * i)) r


/-- What Take leaves. -/
def TakeRes (r : Nat × Nat × Int) (w : World) (e : Ending) (w' : World) : Prop := e = .returned (.tuple #[.int .u64 r.1, .int .i64 r.2.1, .int .i64 r.2.2]) ∧ w = w'

set_option maxHeartbeats 4000000 in
set_option maxRecDepth 100000 in
theorem take_in {w : World} {a : Option Addr} {l : List UInt8} (h : BytesAt w a l) (cap : Nat) (hl : l.length ≤ maxLen) :
    Calls Tryz.prog 74 #[.slice a l.length cap] w (TakeRes (takeB 0 0 l) w) := by
  unfold maxLen at hl
  have HA := Lib.hid h
  clear h
  go_enter Tryz.func74, Tryz.ntmps74
  go_wp2_with fail
  go_loopw [5, 10] (fun vn vi wr => ∃ k acc : Nat, vi = .int .i64 k ∧ vn = .int .u64 acc ∧ k ≤ l.length ∧ k ≤ 9 ∧ acc < 2 ^ (7 * k) ∧ w = wr ∧ takeB 0 0 l = takeB k acc (l.drop k)) (fun _ vi _ => l.length - (intOf vi).toNat)
  case atStart => exact ⟨0, 0, rfl, rfl, Nat.zero_le _, Nat.zero_le _, by decide, rfl, rfl⟩
  case round =>
    obtain ⟨k, acc, rfl, rfl, hkl, hk9, hacc, rfl, hdec⟩ := hrel
    by_cases hk : k < l.length
    · obtain ⟨g, o, rfl, hc⟩ : ∃ g o, a = some ⟨g, o, none⟩ ∧ w.cell? ⟨g, o + k, none⟩ = some (.int .u8 (l[k]).toNat) := by
        rcases HA.out with h0 | ⟨b, off, e, hc⟩
        · rw [h0] at hk; simp at hk
        · exact ⟨b, off, e, by rw [hc k hk]; simp [List.getD, List.getElem?_eq_getElem hk]⟩
      have hdrop : l.drop k = l[k] :: l.drop (k + 1) := List.drop_eq_getElem_cons hk
      rw [hdrop] at hdec
      generalize l[k] = b at hc hdec
      have hb256 : b.toNat < 256 := b.toNat_lt
      clear hdrop
      have hlt : (k : Int) < (l.length : Int) := by omega
      have hks : k = 0 ∨ k = 1 ∨ k = 2 ∨ k = 3 ∨ k = 4 ∨ k = 5 ∨ k = 6 ∨ k = 7 ∨ k = 8 ∨ k = 9 := by omega
      rcases hks with rfl | rfl | rfl | rfl | rfl | rfl | rfl | rfl | rfl | rfl
      · have hacc' : acc < 1 := by simpa using hacc
        obtain rfl : acc = 0 := by omega
        have hc0 : w.cell? ⟨g, o, none⟩ = some (.int .u8 b.toNat) := hc
        have hv : bits .or .u64 0 (IntKind.u64.wrap (IntKind.u64.wrap (bits .and .u8 (b.toNat : Int) 127))) = ((b.toNat % 128 : Nat) : Int) := by
          simp (disch := omega) only [u8_and127, u64_wrap_id, u64_orv0]
          omega
        by_cases hb : b.toNat < 128
        · have hb' : (b.toNat : Int) < 128 := by omega
          have hm : b.toNat % 128 = b.toNat := by omega
          have hF : takeB 0 0 (b :: l.drop (0 + 1)) = (b.toNat, 1, 0) := by simp [takeB, hb]
          have HX := Lib.hid (hdec.trans hF)
          rw [hm] at hv
          clear hdec hF hm
          by_cases h0 : b.toNat = 0
          · have h0' : ((b.toNat : Int) == 0) = true := by simp [h0]
            clear h0
            go_wp2
            refine bodyPost_ret (v := .tuple #[.int .u64 (b.toNat : Int), .int .i64 1, .int .i64 0]) (by simp [results, Tryz.results74, go_sem]) rfl ⟨by rw [HX.out]; rfl, rfl⟩
          · have h0' : ((b.toNat : Int) == 0) = false := by simp [h0]
            clear h0
            go_wp2
            refine bodyPost_ret (v := .tuple #[.int .u64 (b.toNat : Int), .int .i64 1, .int .i64 0]) (by simp [results, Tryz.results74, go_sem]) rfl ⟨by rw [HX.out]; rfl, rfl⟩
        · have hb' : ¬ (b.toNat : Int) < 128 := by omega
          have hF : takeB 0 0 (b :: l.drop (0 + 1)) = takeB 1 (b.toNat % 128) (l.drop (0 + 1)) := by simp [takeB, hb]
          have HX := Lib.hid (hdec.trans hF)
          clear hdec hF
          go_wp2
          go_roundw
          case rel =>
            refine ⟨1, b.toNat % 128, rfl, rfl, by omega, by omega, ?_, by trivial, HX.out⟩
            show b.toNat % 128 < 2 ^ 7
            have e2 : (2 : Nat) ^ 7 = 128 := by decide
            omega
          case measure => simp [intOf]; omega
      · have hacc' : acc < 128 := by simpa using hacc
        have hv : bits .or .u64 (acc : Int) (IntKind.u64.wrap (IntKind.u64.wrap (bits .and .u8 (b.toNat : Int) 127) * 128)) = ((acc + b.toNat % 128 * 128 : Nat) : Int) := by
          simp (disch := omega) only [u8_and127, u64_wrap_id, u64_orv7]
          omega
        by_cases hb : b.toNat < 128
        · have hb' : (b.toNat : Int) < 128 := by omega
          have hm : b.toNat % 128 = b.toNat := by omega
          by_cases h0 : b.toNat = 0
          · have h0' : ((b.toNat : Int) == 0) = true := by simp [h0]
            have hF : takeB 1 acc (b :: l.drop (1 + 1)) = (0, 0, 11) := by simp [takeB, hb, h0]
            have HX := Lib.hid (hdec.trans hF)
            clear hdec hF h0
            go_wp2
            refine bodyPost_ret (v := .tuple #[.int .u64 0, .int .i64 0, .int .i64 11]) (by simp [results, Tryz.results74, go_sem]) rfl ⟨by rw [HX.out]; rfl, rfl⟩
          · have h0' : ((b.toNat : Int) == 0) = false := by simp [h0]
            have hF : takeB 1 acc (b :: l.drop (1 + 1)) = (acc + b.toNat * 128, 2, 0) := by simp [takeB, hb, h0]
            have HX := Lib.hid (hdec.trans hF)
            rw [hm] at hv
            clear hdec hF h0 hm
            go_wp2
            refine bodyPost_ret (v := .tuple #[.int .u64 ((acc + b.toNat * 128 : Nat) : Int), .int .i64 2, .int .i64 0]) (by simp [results, Tryz.results74, go_sem]) rfl ⟨by rw [HX.out]; rfl, rfl⟩
        · have hb' : ¬ (b.toNat : Int) < 128 := by omega
          have hF : takeB 1 acc (b :: l.drop (1 + 1)) = takeB 2 (acc + b.toNat % 128 * 128) (l.drop (1 + 1)) := by simp [takeB, hb]
          have HX := Lib.hid (hdec.trans hF)
          clear hdec hF
          go_wp2
          go_roundw
          case rel =>
            refine ⟨2, acc + b.toNat % 128 * 128, rfl, rfl, by omega, by omega, ?_, by trivial, HX.out⟩
            show acc + b.toNat % 128 * 128 < 2 ^ 14
            have e2 : (2 : Nat) ^ 14 = 16384 := by decide
            omega
          case measure => simp [intOf]; omega
      · have hacc' : acc < 16384 := by simpa using hacc
        have hv : bits .or .u64 (acc : Int) (IntKind.u64.wrap (IntKind.u64.wrap (bits .and .u8 (b.toNat : Int) 127) * 16384)) = ((acc + b.toNat % 128 * 16384 : Nat) : Int) := by
          simp (disch := omega) only [u8_and127, u64_wrap_id, u64_orv14]
          omega
        by_cases hb : b.toNat < 128
        · have hb' : (b.toNat : Int) < 128 := by omega
          have hm : b.toNat % 128 = b.toNat := by omega
          by_cases h0 : b.toNat = 0
          · have h0' : ((b.toNat : Int) == 0) = true := by simp [h0]
            have hF : takeB 2 acc (b :: l.drop (2 + 1)) = (0, 0, 11) := by simp [takeB, hb, h0]
            have HX := Lib.hid (hdec.trans hF)
            clear hdec hF h0
            go_wp2
            refine bodyPost_ret (v := .tuple #[.int .u64 0, .int .i64 0, .int .i64 11]) (by simp [results, Tryz.results74, go_sem]) rfl ⟨by rw [HX.out]; rfl, rfl⟩
          · have h0' : ((b.toNat : Int) == 0) = false := by simp [h0]
            have hF : takeB 2 acc (b :: l.drop (2 + 1)) = (acc + b.toNat * 16384, 3, 0) := by simp [takeB, hb, h0]
            have HX := Lib.hid (hdec.trans hF)
            rw [hm] at hv
            clear hdec hF h0 hm
            go_wp2
            refine bodyPost_ret (v := .tuple #[.int .u64 ((acc + b.toNat * 16384 : Nat) : Int), .int .i64 3, .int .i64 0]) (by simp [results, Tryz.results74, go_sem]) rfl ⟨by rw [HX.out]; rfl, rfl⟩
        · have hb' : ¬ (b.toNat : Int) < 128 := by omega
          have hF : takeB 2 acc (b :: l.drop (2 + 1)) = takeB 3 (acc + b.toNat % 128 * 16384) (l.drop (2 + 1)) := by simp [takeB, hb]
          have HX := Lib.hid (hdec.trans hF)
          clear hdec hF
          go_wp2
          go_roundw
          case rel =>
            refine ⟨3, acc + b.toNat % 128 * 16384, rfl, rfl, by omega, by omega, ?_, by trivial, HX.out⟩
            show acc + b.toNat % 128 * 16384 < 2 ^ 21
            have e2 : (2 : Nat) ^ 21 = 2097152 := by decide
            omega
          case measure => simp [intOf]; omega
      · have hacc' : acc < 2097152 := by simpa using hacc
        have hv : bits .or .u64 (acc : Int) (IntKind.u64.wrap (IntKind.u64.wrap (bits .and .u8 (b.toNat : Int) 127) * 2097152)) = ((acc + b.toNat % 128 * 2097152 : Nat) : Int) := by
          simp (disch := omega) only [u8_and127, u64_wrap_id, u64_orv21]
          omega
        by_cases hb : b.toNat < 128
        · have hb' : (b.toNat : Int) < 128 := by omega
          have hm : b.toNat % 128 = b.toNat := by omega
          by_cases h0 : b.toNat = 0
          · have h0' : ((b.toNat : Int) == 0) = true := by simp [h0]
            have hF : takeB 3 acc (b :: l.drop (3 + 1)) = (0, 0, 11) := by simp [takeB, hb, h0]
            have HX := Lib.hid (hdec.trans hF)
            clear hdec hF h0
            go_wp2
            refine bodyPost_ret (v := .tuple #[.int .u64 0, .int .i64 0, .int .i64 11]) (by simp [results, Tryz.results74, go_sem]) rfl ⟨by rw [HX.out]; rfl, rfl⟩
          · have h0' : ((b.toNat : Int) == 0) = false := by simp [h0]
            have hF : takeB 3 acc (b :: l.drop (3 + 1)) = (acc + b.toNat * 2097152, 4, 0) := by simp [takeB, hb, h0]
            have HX := Lib.hid (hdec.trans hF)
            rw [hm] at hv
            clear hdec hF h0 hm
            go_wp2
            refine bodyPost_ret (v := .tuple #[.int .u64 ((acc + b.toNat * 2097152 : Nat) : Int), .int .i64 4, .int .i64 0]) (by simp [results, Tryz.results74, go_sem]) rfl ⟨by rw [HX.out]; rfl, rfl⟩
        · have hb' : ¬ (b.toNat : Int) < 128 := by omega
          have hF : takeB 3 acc (b :: l.drop (3 + 1)) = takeB 4 (acc + b.toNat % 128 * 2097152) (l.drop (3 + 1)) := by simp [takeB, hb]
          have HX := Lib.hid (hdec.trans hF)
          clear hdec hF
          go_wp2
          go_roundw
          case rel =>
            refine ⟨4, acc + b.toNat % 128 * 2097152, rfl, rfl, by omega, by omega, ?_, by trivial, HX.out⟩
            show acc + b.toNat % 128 * 2097152 < 2 ^ 28
            have e2 : (2 : Nat) ^ 28 = 268435456 := by decide
            omega
          case measure => simp [intOf]; omega
      · have hacc' : acc < 268435456 := by simpa using hacc
        have hv : bits .or .u64 (acc : Int) (IntKind.u64.wrap (IntKind.u64.wrap (bits .and .u8 (b.toNat : Int) 127) * 268435456)) = ((acc + b.toNat % 128 * 268435456 : Nat) : Int) := by
          simp (disch := omega) only [u8_and127, u64_wrap_id, u64_orv28]
          omega
        by_cases hb : b.toNat < 128
        · have hb' : (b.toNat : Int) < 128 := by omega
          have hm : b.toNat % 128 = b.toNat := by omega
          by_cases h0 : b.toNat = 0
          · have h0' : ((b.toNat : Int) == 0) = true := by simp [h0]
            have hF : takeB 4 acc (b :: l.drop (4 + 1)) = (0, 0, 11) := by simp [takeB, hb, h0]
            have HX := Lib.hid (hdec.trans hF)
            clear hdec hF h0
            go_wp2
            refine bodyPost_ret (v := .tuple #[.int .u64 0, .int .i64 0, .int .i64 11]) (by simp [results, Tryz.results74, go_sem]) rfl ⟨by rw [HX.out]; rfl, rfl⟩
          · have h0' : ((b.toNat : Int) == 0) = false := by simp [h0]
            have hF : takeB 4 acc (b :: l.drop (4 + 1)) = (acc + b.toNat * 268435456, 5, 0) := by simp [takeB, hb, h0]
            have HX := Lib.hid (hdec.trans hF)
            rw [hm] at hv
            clear hdec hF h0 hm
            go_wp2
            refine bodyPost_ret (v := .tuple #[.int .u64 ((acc + b.toNat * 268435456 : Nat) : Int), .int .i64 5, .int .i64 0]) (by simp [results, Tryz.results74, go_sem]) rfl ⟨by rw [HX.out]; rfl, rfl⟩
        · have hb' : ¬ (b.toNat : Int) < 128 := by omega
          have hF : takeB 4 acc (b :: l.drop (4 + 1)) = takeB 5 (acc + b.toNat % 128 * 268435456) (l.drop (4 + 1)) := by simp [takeB, hb]
          have HX := Lib.hid (hdec.trans hF)
          clear hdec hF
          go_wp2
          go_roundw
          case rel =>
            refine ⟨5, acc + b.toNat % 128 * 268435456, rfl, rfl, by omega, by omega, ?_, by trivial, HX.out⟩
            show acc + b.toNat % 128 * 268435456 < 2 ^ 35
            have e2 : (2 : Nat) ^ 35 = 34359738368 := by decide
            omega
          case measure => simp [intOf]; omega
      · have hacc' : acc < 34359738368 := by simpa using hacc
        have hv : bits .or .u64 (acc : Int) (IntKind.u64.wrap (IntKind.u64.wrap (bits .and .u8 (b.toNat : Int) 127) * 34359738368)) = ((acc + b.toNat % 128 * 34359738368 : Nat) : Int) := by
          simp (disch := omega) only [u8_and127, u64_wrap_id, u64_orv35]
          omega
        by_cases hb : b.toNat < 128
        · have hb' : (b.toNat : Int) < 128 := by omega
          have hm : b.toNat % 128 = b.toNat := by omega
          by_cases h0 : b.toNat = 0
          · have h0' : ((b.toNat : Int) == 0) = true := by simp [h0]
            have hF : takeB 5 acc (b :: l.drop (5 + 1)) = (0, 0, 11) := by simp [takeB, hb, h0]
            have HX := Lib.hid (hdec.trans hF)
            clear hdec hF h0
            go_wp2
            refine bodyPost_ret (v := .tuple #[.int .u64 0, .int .i64 0, .int .i64 11]) (by simp [results, Tryz.results74, go_sem]) rfl ⟨by rw [HX.out]; rfl, rfl⟩
          · have h0' : ((b.toNat : Int) == 0) = false := by simp [h0]
            have hF : takeB 5 acc (b :: l.drop (5 + 1)) = (acc + b.toNat * 34359738368, 6, 0) := by simp [takeB, hb, h0]
            have HX := Lib.hid (hdec.trans hF)
            rw [hm] at hv
            clear hdec hF h0 hm
            go_wp2
            refine bodyPost_ret (v := .tuple #[.int .u64 ((acc + b.toNat * 34359738368 : Nat) : Int), .int .i64 6, .int .i64 0]) (by simp [results, Tryz.results74, go_sem]) rfl ⟨by rw [HX.out]; rfl, rfl⟩
        · have hb' : ¬ (b.toNat : Int) < 128 := by omega
          have hF : takeB 5 acc (b :: l.drop (5 + 1)) = takeB 6 (acc + b.toNat % 128 * 34359738368) (l.drop (5 + 1)) := by simp [takeB, hb]
          have HX := Lib.hid (hdec.trans hF)
          clear hdec hF
          go_wp2
          go_roundw
          case rel =>
            refine ⟨6, acc + b.toNat % 128 * 34359738368, rfl, rfl, by omega, by omega, ?_, by trivial, HX.out⟩
            show acc + b.toNat % 128 * 34359738368 < 2 ^ 42
            have e2 : (2 : Nat) ^ 42 = 4398046511104 := by decide
            omega
          case measure => simp [intOf]; omega
      · have hacc' : acc < 4398046511104 := by simpa using hacc
        have hv : bits .or .u64 (acc : Int) (IntKind.u64.wrap (IntKind.u64.wrap (bits .and .u8 (b.toNat : Int) 127) * 4398046511104)) = ((acc + b.toNat % 128 * 4398046511104 : Nat) : Int) := by
          simp (disch := omega) only [u8_and127, u64_wrap_id, u64_orv42]
          omega
        by_cases hb : b.toNat < 128
        · have hb' : (b.toNat : Int) < 128 := by omega
          have hm : b.toNat % 128 = b.toNat := by omega
          by_cases h0 : b.toNat = 0
          · have h0' : ((b.toNat : Int) == 0) = true := by simp [h0]
            have hF : takeB 6 acc (b :: l.drop (6 + 1)) = (0, 0, 11) := by simp [takeB, hb, h0]
            have HX := Lib.hid (hdec.trans hF)
            clear hdec hF h0
            go_wp2
            refine bodyPost_ret (v := .tuple #[.int .u64 0, .int .i64 0, .int .i64 11]) (by simp [results, Tryz.results74, go_sem]) rfl ⟨by rw [HX.out]; rfl, rfl⟩
          · have h0' : ((b.toNat : Int) == 0) = false := by simp [h0]
            have hF : takeB 6 acc (b :: l.drop (6 + 1)) = (acc + b.toNat * 4398046511104, 7, 0) := by simp [takeB, hb, h0]
            have HX := Lib.hid (hdec.trans hF)
            rw [hm] at hv
            clear hdec hF h0 hm
            go_wp2
            refine bodyPost_ret (v := .tuple #[.int .u64 ((acc + b.toNat * 4398046511104 : Nat) : Int), .int .i64 7, .int .i64 0]) (by simp [results, Tryz.results74, go_sem]) rfl ⟨by rw [HX.out]; rfl, rfl⟩
        · have hb' : ¬ (b.toNat : Int) < 128 := by omega
          have hF : takeB 6 acc (b :: l.drop (6 + 1)) = takeB 7 (acc + b.toNat % 128 * 4398046511104) (l.drop (6 + 1)) := by simp [takeB, hb]
          have HX := Lib.hid (hdec.trans hF)
          clear hdec hF
          go_wp2
          go_roundw
          case rel =>
            refine ⟨7, acc + b.toNat % 128 * 4398046511104, rfl, rfl, by omega, by omega, ?_, by trivial, HX.out⟩
            show acc + b.toNat % 128 * 4398046511104 < 2 ^ 49
            have e2 : (2 : Nat) ^ 49 = 562949953421312 := by decide
            omega
          case measure => simp [intOf]; omega
      · have hacc' : acc < 562949953421312 := by simpa using hacc
        have hv : bits .or .u64 (acc : Int) (IntKind.u64.wrap (IntKind.u64.wrap (bits .and .u8 (b.toNat : Int) 127) * 562949953421312)) = ((acc + b.toNat % 128 * 562949953421312 : Nat) : Int) := by
          simp (disch := omega) only [u8_and127, u64_wrap_id, u64_orv49]
          omega
        by_cases hb : b.toNat < 128
        · have hb' : (b.toNat : Int) < 128 := by omega
          have hm : b.toNat % 128 = b.toNat := by omega
          by_cases h0 : b.toNat = 0
          · have h0' : ((b.toNat : Int) == 0) = true := by simp [h0]
            have hF : takeB 7 acc (b :: l.drop (7 + 1)) = (0, 0, 11) := by simp [takeB, hb, h0]
            have HX := Lib.hid (hdec.trans hF)
            clear hdec hF h0
            go_wp2
            refine bodyPost_ret (v := .tuple #[.int .u64 0, .int .i64 0, .int .i64 11]) (by simp [results, Tryz.results74, go_sem]) rfl ⟨by rw [HX.out]; rfl, rfl⟩
          · have h0' : ((b.toNat : Int) == 0) = false := by simp [h0]
            have hF : takeB 7 acc (b :: l.drop (7 + 1)) = (acc + b.toNat * 562949953421312, 8, 0) := by simp [takeB, hb, h0]
            have HX := Lib.hid (hdec.trans hF)
            rw [hm] at hv
            clear hdec hF h0 hm
            go_wp2
            refine bodyPost_ret (v := .tuple #[.int .u64 ((acc + b.toNat * 562949953421312 : Nat) : Int), .int .i64 8, .int .i64 0]) (by simp [results, Tryz.results74, go_sem]) rfl ⟨by rw [HX.out]; rfl, rfl⟩
        · have hb' : ¬ (b.toNat : Int) < 128 := by omega
          have hF : takeB 7 acc (b :: l.drop (7 + 1)) = takeB 8 (acc + b.toNat % 128 * 562949953421312) (l.drop (7 + 1)) := by simp [takeB, hb]
          have HX := Lib.hid (hdec.trans hF)
          clear hdec hF
          go_wp2
          go_roundw
          case rel =>
            refine ⟨8, acc + b.toNat % 128 * 562949953421312, rfl, rfl, by omega, by omega, ?_, by trivial, HX.out⟩
            show acc + b.toNat % 128 * 562949953421312 < 2 ^ 56
            have e2 : (2 : Nat) ^ 56 = 72057594037927936 := by decide
            omega
          case measure => simp [intOf]; omega
      · have hacc' : acc < 72057594037927936 := by simpa using hacc
        have hv : bits .or .u64 (acc : Int) (IntKind.u64.wrap (IntKind.u64.wrap (bits .and .u8 (b.toNat : Int) 127) * 72057594037927936)) = ((acc + b.toNat % 128 * 72057594037927936 : Nat) : Int) := by
          simp (disch := omega) only [u8_and127, u64_wrap_id, u64_orv56]
          omega
        by_cases hb : b.toNat < 128
        · have hb' : (b.toNat : Int) < 128 := by omega
          have hm : b.toNat % 128 = b.toNat := by omega
          by_cases h0 : b.toNat = 0
          · have h0' : ((b.toNat : Int) == 0) = true := by simp [h0]
            have hF : takeB 8 acc (b :: l.drop (8 + 1)) = (0, 0, 11) := by simp [takeB, hb, h0]
            have HX := Lib.hid (hdec.trans hF)
            clear hdec hF h0
            go_wp2
            refine bodyPost_ret (v := .tuple #[.int .u64 0, .int .i64 0, .int .i64 11]) (by simp [results, Tryz.results74, go_sem]) rfl ⟨by rw [HX.out]; rfl, rfl⟩
          · have h0' : ((b.toNat : Int) == 0) = false := by simp [h0]
            have hF : takeB 8 acc (b :: l.drop (8 + 1)) = (acc + b.toNat * 72057594037927936, 9, 0) := by simp [takeB, hb, h0]
            have HX := Lib.hid (hdec.trans hF)
            rw [hm] at hv
            clear hdec hF h0 hm
            go_wp2
            refine bodyPost_ret (v := .tuple #[.int .u64 ((acc + b.toNat * 72057594037927936 : Nat) : Int), .int .i64 9, .int .i64 0]) (by simp [results, Tryz.results74, go_sem]) rfl ⟨by rw [HX.out]; rfl, rfl⟩
        · have hb' : ¬ (b.toNat : Int) < 128 := by omega
          have hF : takeB 8 acc (b :: l.drop (8 + 1)) = takeB 9 (acc + b.toNat % 128 * 72057594037927936) (l.drop (8 + 1)) := by simp [takeB, hb]
          have HX := Lib.hid (hdec.trans hF)
          clear hdec hF
          go_wp2
          go_roundw
          case rel =>
            refine ⟨9, acc + b.toNat % 128 * 72057594037927936, rfl, rfl, by omega, by omega, ?_, by trivial, HX.out⟩
            show acc + b.toNat % 128 * 72057594037927936 < 2 ^ 63
            have e2 : (2 : Nat) ^ 63 = 9223372036854775808 := by decide
            omega
          case measure => simp [intOf]; omega
      · have hacc' : acc < 9223372036854775808 := by simpa using hacc
        by_cases h1 : 1 < b.toNat
        · have h1' : (1 : Int) < (b.toNat : Int) := by omega
          have hF : takeB 9 acc (b :: l.drop (9 + 1)) = (0, 0, 11) := by simp [takeB, h1]
          have HX := Lib.hid (hdec.trans hF)
          clear hdec hF
          go_wp2
          refine bodyPost_ret (v := .tuple #[.int .u64 0, .int .i64 0, .int .i64 11]) (by simp [results, Tryz.results74, go_sem]) rfl ⟨by rw [HX.out]; rfl, rfl⟩
        have h1' : ¬ (1 : Int) < (b.toNat : Int) := by omega
        have hv : bits .or .u64 (acc : Int) (IntKind.u64.wrap (IntKind.u64.wrap (bits .and .u8 (b.toNat : Int) 127) * 9223372036854775808)) = ((acc + b.toNat % 128 * 9223372036854775808 : Nat) : Int) := by
          simp (disch := omega) only [u8_and127, u64_wrap_id, u64_orv63]
          omega
        by_cases hb : b.toNat < 128
        · have hb' : (b.toNat : Int) < 128 := by omega
          have hm : b.toNat % 128 = b.toNat := by omega
          by_cases h0 : b.toNat = 0
          · have h0' : ((b.toNat : Int) == 0) = true := by simp [h0]
            have hF : takeB 9 acc (b :: l.drop (9 + 1)) = (0, 0, 11) := by simp [takeB, h1, hb, h0]
            have HX := Lib.hid (hdec.trans hF)
            clear hdec hF h0
            go_wp2
            refine bodyPost_ret (v := .tuple #[.int .u64 0, .int .i64 0, .int .i64 11]) (by simp [results, Tryz.results74, go_sem]) rfl ⟨by rw [HX.out]; rfl, rfl⟩
          · have h0' : ((b.toNat : Int) == 0) = false := by simp [h0]
            have hF : takeB 9 acc (b :: l.drop (9 + 1)) = (acc + b.toNat * 9223372036854775808, 10, 0) := by simp [takeB, h1, hb, h0]
            have HX := Lib.hid (hdec.trans hF)
            rw [hm] at hv
            clear hdec hF h0 hm
            go_wp2
            refine bodyPost_ret (v := .tuple #[.int .u64 ((acc + b.toNat * 9223372036854775808 : Nat) : Int), .int .i64 10, .int .i64 0]) (by simp [results, Tryz.results74, go_sem]) rfl ⟨by rw [HX.out]; rfl, rfl⟩
        · omega
    · have hke : k = l.length := by omega
      have hF : takeB k acc (l.drop k) = (0, 0, 10) := by rw [hke, List.drop_length]; rfl
      have HX := Lib.hid (hdec.trans hF)
      have hlt : ¬ (k : Int) < (l.length : Int) := by omega
      clear hdec hF hke
      go_wp2
      refine bodyPost_ret (v := .tuple #[.int .u64 0, .int .i64 0, .int .i64 10]) (by simp [results, Tryz.results74, go_sem]) rfl ⟨by rw [HX.out]; rfl, rfl⟩


/-- The slice value v reads as the bytes l. -/
def ReadsB (w : World) (v : Value) (l : List UInt8) : Prop :=
  (v = .slice none 0 0 ∧ l = []) ∨ ∃ a c, v = .slice (some a) l.length c ∧ ∀ j u, (Lib.byteCells l)[j]? = some u → w.cell? (a.add j) = some u

theorem ReadsB.at {w : World} {v : Value} {l : List UInt8} (h : ReadsB w v l) : ∃ a c, v = .slice a l.length c ∧ BytesAt w a l := by
  rcases h with ⟨rfl, rfl⟩ | ⟨a, c, rfl, hc⟩
  · exact ⟨none, 0, rfl, .inl rfl⟩
  · refine ⟨_, _, rfl, ?_⟩
    by_cases h0 : l = []
    · exact .inl h0
    · right
      obtain ⟨b, off, spot⟩ := a
      have hl : 0 < l.length := List.length_pos_iff.2 h0
      have h1 := hc 0 (.int .u8 (l[0]).toNat) (by simp [Lib.byteCells, hl])
      have hs : spot = none := by simpa [Addr.add] using World.cell?_spot h1
      subst hs
      refine ⟨b, off, rfl, fun i hi => ?_⟩
      have h2 := hc i (.int .u8 (l[i]).toNat) (by simp [Lib.byteCells, hi])
      have e : (⟨b, off, none⟩ : Addr).add i = ⟨b, off + i, none⟩ := by unfold Addr.add; split <;> simp_all
      rw [e] at h2
      rw [h2]
      simp [List.getD, hi]

theorem ReadsB.below {w w' : World} {v : Value} {l : List UInt8} (h : ReadsB w v l) (hc : Below w.heap.size w w') : ReadsB w' v l := by
  rcases h with h | ⟨a, c, hv, hcell⟩
  · exact .inl h
  · exact .inr ⟨a, c, hv, fun j u hj => (World.cell?_of_block (w := w) (hc.block _ (World.block_lt_of_cell? w _ (hcell j u hj)))).trans (hcell j u hj)⟩

theorem OwnB.reads {w0 w : World} {v : Value} {l : List UInt8} (h : OwnB w0 v l w) : ReadsB w v l := by
  obtain ⟨h, _⟩ := h
  rcases h.2 with ⟨rfl, h0⟩ | ⟨g, cap, cur, rfl, _⟩
  · exact .inl ⟨rfl, List.length_eq_zero_iff.1 h0⟩
  · exact .inr ⟨_, _, rfl, h.cells rfl⟩

theorem OwnB.slice2 {w0 w : World} {v : Value} {l : List UInt8} (h : OwnB w0 v l w) : ∃ a c, v = .slice a l.length c ∧ BytesAt w a l ∧ l.length ≤ c ∧ c ≤ maxLen := by
  obtain ⟨a, c, hv, hb⟩ := h.slice
  refine ⟨a, c, hv, hb, ?_⟩
  rcases h.1.2 with ⟨h1, h0⟩ | ⟨g, cap, cur, h1, _, _, h2, h3, _⟩
  · rw [hv] at h1
    simp at h1
    obtain ⟨_, h4, h5⟩ := h1
    subst h5
    simp [h0]
  · rw [hv] at h1
    simp at h1
    obtain ⟨_, rfl⟩ := h1
    exact ⟨h2, h3⟩

theorem OwnB.made (w : World) : OwnB w (.slice (some ⟨w.heap.size, 0, none⟩) 0 0) [] (w.alloc (.cells #[] 5)) :=
  ⟨World.ownsRow_made w #[] 0 (Nat.le_refl _) (Nat.zero_le _) rfl, below_alloc w _⟩

/-- append of bytes to bytes of the call's own. -/
theorem wpList_appB {w0 w : World} {ops : Array Oper} {rest : List Oper} {o : Oper} {a : Act} {Q : Exit → Act → World → Prop} (hgd : o.guard = none) (s x : Operand)
    (ho : o.op = .call { callee := .builtin .append, args := #[s, x], argTypes := #[23, 23] })
    (v u : Value) (l m : List UInt8) (hs : a.eval s = v) (hx : a.eval x = u) (hown : OwnB w0 v l w) (hu : ReadsB w u m) (hlim : l.length + m.length ≤ 140737488355328)
    (h : ∀ v' w', OwnB w0 v' (l ++ m) w' → w.grownBy w' v.ownBlock → wpList Tryz.prog ops Q rest (a.put o.dst v') w') : wpList Tryz.prog ops Q (o :: rest) a w := by
  obtain ⟨i0, hi, hz0, hz1, hz2⟩ := info_parts info5
  rcases hu with ⟨rfl, rfl⟩ | ⟨ad, c, rfl, hc⟩
  · exact wpList_append_own_none hgd s x 23 ho w0.heap.size 5 i0 1 Tryz.underlying23 hi v _ _ hs hown.1 hx (h v w (by simpa using hown) ⟨rfl, rfl, rfl, Nat.le_refl _, fun _ _ _ => rfl⟩)
  · refine wpList_append_own w hgd s x 23 ho w0.heap.size 5 i0 (.int .u8 0) 1 1 Tryz.underlying23 hi hz0 hz1 hz2 rfl (by decide) v _ _ hs hown.1 ad m.length c (Lib.byteCells m) hx (by simp [Lib.byteCells]) hc ?_ (by unfold maxLen; omega) (by omega) hown.2.size ?_
    · intro u hu
      simp [Lib.byteCells] at hu
      obtain ⟨c, _, rfl⟩ := hu
      rfl
    · intro v' w' h1 h2 _
      exact h v' w' ⟨by rw [Lib.byteCells_append, List.length_append]; exact h1, hown.2.grown h2 hown.2.size (fun k hk => (hown.1.lt k hk).1)⟩ h2

/-- string(b). -/
theorem convB {w : World} {a : Option Addr} {l : List UInt8} (h : BytesAt w a l) (cap : Nat) : (convert 23 9 (.slice a l.length cap)).run Tryz.prog w = .ok (.string ⟨l.toArray⟩) w := by
  cases a with
  | none =>
    have h0 : l = [] := by
      rcases h with h | ⟨b, off, e, _⟩
      · exact h
      · cases e
    subst h0
    exact run_convert_bytes_nil w 23 5 Tryz.underlying23 Tryz.underlying5 _ _ 9 Tryz.underlying9
  | some ad =>
    refine run_convert_bytes_back w 23 9 5 ad cap l Tryz.underlying23 Tryz.underlying5 Tryz.underlying9 ?_
    intro j hj
    rcases h with h | ⟨b, off, e, hc⟩
    · subst h; simp at hj
    · cases e
      have e : (⟨b, off, none⟩ : Addr).add j = ⟨b, off + j, none⟩ := by unfold Addr.add; split <;> simp_all
      rw [e, hc j hj]
      simp [List.getD, hj]

/-! ### the plain laws -/
theorem take_uvarint : ∀ (f n i acc : Nat) (r : List UInt8), n < 128 ^ f → i ≤ 9 → n < 2 ^ (64 - 7 * i) → (i = 0 ∨ 0 < n) →
    takeB i acc (Lib.uvarint n ++ r) = (acc + n * 2 ^ (7 * i), i + (Lib.uvarint n).length, 0)
  | 0, n, i, acc, r, hf, hi, hn, h0 => by
    have : n = 0 := by simpa using hf
    subst this
    have hi0 : i = 0 := by omega
    subst hi0
    simp [Lib.uvarint_small, takeB]
  | f + 1, n, i, acc, r, hf, hi, hn, h0 => by
    have hi9 : i = 9 → n < 2 := by
      intro h
      subst h
      simpa using hn
    by_cases hs : n < 128
    · rw [Lib.uvarint_small hs]
      have hb : (n.toUInt8).toNat = n := Lib.toUInt8_toNat (by omega)
      simp only [List.cons_append, List.nil_append, takeB, hb]
      rw [if_neg (by intro h; have := hi9 h.1; omega), if_pos hs, if_neg (by intro h; omega)]
      simp
    · have hi8 : i ≤ 8 := by
        rcases Nat.lt_or_ge i 9 with h | h
        · omega
        · have := hi9 (by omega); omega
      rw [Lib.uvarint_big (by omega)]
      have hb : ((n % 128 + 128).toUInt8).toNat = n % 128 + 128 := Lib.toUInt8_toNat (by omega)
      simp only [List.cons_append, takeB, hb]
      rw [if_neg (by omega), if_neg (by omega)]
      have h2 : n / 128 < 2 ^ (64 - 7 * (i + 1)) := by
        have e : 2 ^ (64 - 7 * i) = 2 ^ (64 - 7 * (i + 1)) * 128 := by
          rw [show 64 - 7 * i = (64 - 7 * (i + 1)) + 7 by omega, Nat.pow_add]
        rw [e] at hn
        exact Nat.div_lt_of_lt_mul (by rw [Nat.mul_comm]; exact hn)
      have h3 : n / 128 < 128 ^ f := Nat.div_lt_of_lt_mul (by rw [Nat.pow_succ, Nat.mul_comm] at hf; exact hf)
      rw [take_uvarint f (n / 128) (i + 1) _ r h3 (by omega) h2 (.inr (by omega))]
      have e1 : (n % 128 + 128) % 128 = n % 128 := by omega
      rw [e1]
      have e2 : 2 ^ (7 * (i + 1)) = 2 ^ (7 * i) * 128 := by
        rw [show 7 * (i + 1) = 7 * i + 7 by omega, Nat.pow_add]
      refine Prod.ext ?_ (Prod.ext ?_ rfl)
      · show acc + n % 128 * 2 ^ (7 * i) + n / 128 * 2 ^ (7 * (i + 1)) = acc + n * 2 ^ (7 * i)
        rw [e2]
        have e3 : n = n % 128 + n / 128 * 128 := by omega
        calc acc + n % 128 * 2 ^ (7 * i) + n / 128 * (2 ^ (7 * i) * 128)
            = acc + (n % 128 + n / 128 * 128) * 2 ^ (7 * i) := by rw [Nat.add_mul, Nat.mul_assoc, Nat.mul_comm 128 (2 ^ (7 * i)), Nat.add_assoc]
          _ = acc + n * 2 ^ (7 * i) := by rw [← e3]
      · show i + 1 + (Lib.uvarint (n / 128)).length = i + ((n % 128 + 128).toUInt8 :: Lib.uvarint (n / 128)).length
        simp
        omega

theorem take_back {n : Nat} (h : n < 18446744073709551616) (r : List UInt8) : takeB 0 0 (Lib.uvarint n ++ r) = (n, (Lib.uvarint n).length, 0) := by
  rw [take_uvarint 10 n 0 0 r (Nat.lt_trans h (by decide)) (by omega) h (.inl rfl)]
  simp

end Go.Proofs.YtbdankpkdhhlmaaGreat
