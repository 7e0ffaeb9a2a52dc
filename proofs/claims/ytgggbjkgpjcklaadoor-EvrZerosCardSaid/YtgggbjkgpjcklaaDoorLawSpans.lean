/-
  The walk of EvrSpans: it answers true. Helper text (printed by gen_spans.py); the conditions are those typed.
-/
import Derived.Test.YtgggbjkgpjcklaaDoorLawOrder
namespace Go.Proofs.YtgggbjkgpjcklaaDoor
set_option linter.unusedVariables false
set_option linter.unusedSimpArgs false
open Go.RowKit

/-- A call of Meets with its answer. -/
def Mee (k op o : Int) (a b : ByteArray) (r : Bool) (e : Int) : Prop := ∀ w, Calls Tryd.prog 16 #[.int .i64 k, .int .i64 op, .string a, .int .i64 o, .string b] w fun en w' => en = .returned (.tuple #[.bool r, .int .i64 e]) ∧ Below w.heap.size w w'
theorem Mee.of {k op o : Int} {a b : ByteArray} (ha : a.size ≤ maxLen) (hb : b.size ≤ maxLen) : Mee k op o a b (meetsE k op (bs a) o (bs b)).1 (meetsE k op (bs a) o (bs b)).2 := fun w => evrMeets_c k op o a b ha hb w
/-- A call of Parse with its answer. -/
def Par (a : ByteArray) (e v r : ByteArray) (n : Int) : Prop := ∀ w, Calls Tryd.prog 12 #[.string a] w fun en w' => en = .returned (.tuple #[.agg #[.string e, .string v, .string r], .int .i64 n]) ∧ Below w.heap.size w w'
theorem Par.of {a : ByteArray} (ha : a.size ≤ maxLen) : (∃ e v r, Par a e v r 0 ∧ parse (bs a) = some (bs e, bs v, bs r)) ∨ (Par a ⟨#[]⟩ ⟨#[]⟩ ⟨#[]⟩ 30 ∧ parse (bs a) = none) := by
  cases h : parse (bs a) with
  | none => exact .inr ⟨fun w => parse_none ha h w, rfl⟩
  | some x =>
    obtain ⟨e, v, r, rfl, _⟩ := parse_form h
    exact .inl ⟨e, v, r, fun w => parse_some ha h w, rfl⟩

set_option maxHeartbeats 1000000 in
theorem spans_err (k : Int) (a b : ByteArray) (e1 v1 r1 e2 v2 r2 : ByteArray) (e f c g : Int) (hA : Par a e1 v1 r1 e) (hB : Par b e2 v2 r2 f) (hC : Cmp k a b c g) (h : e ≠ 0 ∨ f ≠ 0 ∨ g ≠ 0) (w : World) :
    Calls Tryd.prog 9 #[.int .i64 k, .string a, .string b] w fun en w' => en = .returned (.bool true) ∧ Below w.heap.size w w' := by
  have H0 := Lib.hid awake_c
  have HA := Lib.hid hA
  have HBB := Lib.hid hB
  have HC := Lib.hid hC
  clear hA hB hC
  by_cases he : e = 0
  · by_cases hf : f = 0
    · have hg : g ≠ 0 := by
        rcases h with h | h | h
        · exact absurd he h
        · exact absurd hf h
        · exact h
      have B1 : (e != 0) = false := by simpa using he
      have B2 : (f != 0) = false := by simpa using hf
      have B3 : (g != 0) = true := by simpa using hg
      clear he hf hg h
      go_enter Tryd.func9, Tryd.ntmps9
      go_wp2_with fail
      refine (H0.out _).mono ?_
      rintro e w1 ⟨rfl, hb⟩
      have HB1 := Lib.hid hb
      clear hb
      go_wp2_with fail
      refine (HA.out _).mono ?_
      rintro e w2 ⟨rfl, hb⟩
      have HB2 := Lib.hid (below_tr HB1.out hb)
      clear hb HB1
      have HX := Lib.hid (Box3.of (alloc_at w2 (.cells #[.string e1, .string v1, .string r1] 24)))
      go_wp2_with fail
      refine (HBB.out _).mono ?_
      rintro e w3 ⟨rfl, hb⟩
      have HB3 := Lib.hid (below_tr HB2.out (below_tr (below1 w2 (.cells #[.string e1, .string v1, .string r1] 24)) hb))
      have HX2 := Lib.hid ((HX.out.below hb).below (below1 w3 (.cells #[.string e2, .string v2, .string r2] 24)))
      clear hb HX HB2
      have HY := Lib.hid (Box3.of (alloc_at w3 (.cells #[.string e2, .string v2, .string r2] 24)))
      go_wp2_with fail
      refine (HC.out _).mono ?_
      rintro e w4 ⟨rfl, hb⟩
      have HB4 := Lib.hid (below_tr HB3.out (below_tr (below1 w3 (.cells #[.string e2, .string v2, .string r2] 24)) hb))
      have x := HX2.out.below hb
      have y := HY.out.below hb
      clear hb HX2 HY HB3
      obtain ⟨_, _, _, _, _, _, _⟩ := x
      obtain ⟨_, _, _, _, _, _, _⟩ := y
      go_wp2
      go_ret
      exact ⟨rfl, HB4.out⟩
    · have B1 : (e != 0) = false := by simpa using he
      have B2 : (f != 0) = true := by simpa using hf
      clear he hf h
      go_enter Tryd.func9, Tryd.ntmps9
      go_wp2_with fail
      refine (H0.out _).mono ?_
      rintro e w1 ⟨rfl, hb⟩
      have HB1 := Lib.hid hb
      clear hb
      go_wp2_with fail
      refine (HA.out _).mono ?_
      rintro e w2 ⟨rfl, hb⟩
      have HB2 := Lib.hid (below_tr HB1.out hb)
      clear hb HB1
      have HX := Lib.hid (Box3.of (alloc_at w2 (.cells #[.string e1, .string v1, .string r1] 24)))
      go_wp2_with fail
      refine (HBB.out _).mono ?_
      rintro e w3 ⟨rfl, hb⟩
      have HB3 := Lib.hid (below_tr HB2.out (below_tr (below1 w2 (.cells #[.string e1, .string v1, .string r1] 24)) hb))
      have HX2 := Lib.hid ((HX.out.below hb).below (below1 w3 (.cells #[.string e2, .string v2, .string r2] 24)))
      clear hb HX HB2
      have HY := Lib.hid (Box3.of (alloc_at w3 (.cells #[.string e2, .string v2, .string r2] 24)))
      go_wp2_with fail
      refine (HC.out _).mono ?_
      rintro e w4 ⟨rfl, hb⟩
      have HB4 := Lib.hid (below_tr HB3.out (below_tr (below1 w3 (.cells #[.string e2, .string v2, .string r2] 24)) hb))
      have x := HX2.out.below hb
      have y := HY.out.below hb
      clear hb HX2 HY HB3
      obtain ⟨_, _, _, _, _, _, _⟩ := x
      obtain ⟨_, _, _, _, _, _, _⟩ := y
      go_wp2
      go_ret
      exact ⟨rfl, HB4.out⟩
  · have B1 : (e != 0) = true := by simpa using he
    clear he h
    go_enter Tryd.func9, Tryd.ntmps9
    go_wp2_with fail
    refine (H0.out _).mono ?_
    rintro e w1 ⟨rfl, hb⟩
    have HB1 := Lib.hid hb
    clear hb
    go_wp2_with fail
    refine (HA.out _).mono ?_
    rintro e w2 ⟨rfl, hb⟩
    have HB2 := Lib.hid (below_tr HB1.out hb)
    clear hb HB1
    have HX := Lib.hid (Box3.of (alloc_at w2 (.cells #[.string e1, .string v1, .string r1] 24)))
    go_wp2_with fail
    refine (HBB.out _).mono ?_
    rintro e w3 ⟨rfl, hb⟩
    have HB3 := Lib.hid (below_tr HB2.out (below_tr (below1 w2 (.cells #[.string e1, .string v1, .string r1] 24)) hb))
    have HX2 := Lib.hid ((HX.out.below hb).below (below1 w3 (.cells #[.string e2, .string v2, .string r2] 24)))
    clear hb HX HB2
    have HY := Lib.hid (Box3.of (alloc_at w3 (.cells #[.string e2, .string v2, .string r2] 24)))
    go_wp2_with fail
    refine (HC.out _).mono ?_
    rintro e w4 ⟨rfl, hb⟩
    have HB4 := Lib.hid (below_tr HB3.out (below_tr (below1 w3 (.cells #[.string e2, .string v2, .string r2] 24)) hb))
    have x := HX2.out.below hb
    have y := HY.out.below hb
    clear hb HX2 HY HB3
    obtain ⟨_, _, _, _, _, _, _⟩ := x
    obtain ⟨_, _, _, _, _, _, _⟩ := y
    go_wp2
    go_ret
    exact ⟨rfl, HB4.out⟩

set_option maxHeartbeats 1000000 in
theorem spans_r1 (k : Int) (a b : ByteArray) (e1 v1 e2 v2 r2 : ByteArray) (c : Int) (hA : Par a e1 v1 ⟨#[]⟩ 0) (hB : Par b e2 v2 r2 0) (hC : Cmp k a b c 0) (w : World) :
    Calls Tryd.prog 9 #[.int .i64 k, .string a, .string b] w fun en w' => en = .returned (.bool true) ∧ Below w.heap.size w w' := by
  have H0 := Lib.hid awake_c
  have HA := Lib.hid hA
  have HBB := Lib.hid hB
  have HC := Lib.hid hC
  clear hA hB hC
  go_enter Tryd.func9, Tryd.ntmps9
  go_wp2_with fail
  refine (H0.out _).mono ?_
  rintro e w1 ⟨rfl, hb⟩
  have HB1 := Lib.hid hb
  clear hb
  go_wp2_with fail
  refine (HA.out _).mono ?_
  rintro e w2 ⟨rfl, hb⟩
  have HB2 := Lib.hid (below_tr HB1.out hb)
  clear hb HB1
  have HX := Lib.hid (Box3.of (alloc_at w2 (.cells #[.string e1, .string v1, .string ⟨#[]⟩] 24)))
  go_wp2_with fail
  refine (HBB.out _).mono ?_
  rintro e w3 ⟨rfl, hb⟩
  have HB3 := Lib.hid (below_tr HB2.out (below_tr (below1 w2 (.cells #[.string e1, .string v1, .string ⟨#[]⟩] 24)) hb))
  have HX2 := Lib.hid ((HX.out.below hb).below (below1 w3 (.cells #[.string e2, .string v2, .string r2] 24)))
  clear hb HX HB2
  have HY := Lib.hid (Box3.of (alloc_at w3 (.cells #[.string e2, .string v2, .string r2] 24)))
  go_wp2_with fail
  refine (HC.out _).mono ?_
  rintro e w4 ⟨rfl, hb⟩
  have HB4 := Lib.hid (below_tr HB3.out (below_tr (below1 w3 (.cells #[.string e2, .string v2, .string r2] 24)) hb))
  have x := HX2.out.below hb
  have y := HY.out.below hb
  clear hb HX2 HY HB3
  obtain ⟨_, _, _, _, _, _, _⟩ := x
  obtain ⟨_, _, _, _, _, _, _⟩ := y
  go_wp2
  go_ret
  exact ⟨rfl, HB4.out⟩

set_option maxHeartbeats 1000000 in
theorem spans_r2 (k : Int) (a b : ByteArray) (e1 v1 r1 e2 v2 : ByteArray) (c : Int) (hA : Par a e1 v1 r1 0) (hB : Par b e2 v2 ⟨#[]⟩ 0) (hC : Cmp k a b c 0) (n1 : r1.toList.isEmpty = false) (w : World) :
    Calls Tryd.prog 9 #[.int .i64 k, .string a, .string b] w fun en w' => en = .returned (.bool true) ∧ Below w.heap.size w w' := by
  have H0 := Lib.hid awake_c
  have HA := Lib.hid hA
  have HBB := Lib.hid hB
  have HC := Lib.hid hC
  clear hA hB hC
  go_enter Tryd.func9, Tryd.ntmps9
  go_wp2_with fail
  refine (H0.out _).mono ?_
  rintro e w1 ⟨rfl, hb⟩
  have HB1 := Lib.hid hb
  clear hb
  go_wp2_with fail
  refine (HA.out _).mono ?_
  rintro e w2 ⟨rfl, hb⟩
  have HB2 := Lib.hid (below_tr HB1.out hb)
  clear hb HB1
  have HX := Lib.hid (Box3.of (alloc_at w2 (.cells #[.string e1, .string v1, .string r1] 24)))
  go_wp2_with fail
  refine (HBB.out _).mono ?_
  rintro e w3 ⟨rfl, hb⟩
  have HB3 := Lib.hid (below_tr HB2.out (below_tr (below1 w2 (.cells #[.string e1, .string v1, .string r1] 24)) hb))
  have HX2 := Lib.hid ((HX.out.below hb).below (below1 w3 (.cells #[.string e2, .string v2, .string ⟨#[]⟩] 24)))
  clear hb HX HB2
  have HY := Lib.hid (Box3.of (alloc_at w3 (.cells #[.string e2, .string v2, .string ⟨#[]⟩] 24)))
  go_wp2_with fail
  refine (HC.out _).mono ?_
  rintro e w4 ⟨rfl, hb⟩
  have HB4 := Lib.hid (below_tr HB3.out (below_tr (below1 w3 (.cells #[.string e2, .string v2, .string ⟨#[]⟩] 24)) hb))
  have x := HX2.out.below hb
  have y := HY.out.below hb
  clear hb HX2 HY HB3
  obtain ⟨_, _, _, _, _, _, _⟩ := x
  obtain ⟨_, _, _, _, _, _, _⟩ := y
  go_wp2
  go_ret
  exact ⟨rfl, HB4.out⟩

set_option maxHeartbeats 4000000 in
set_option maxRecDepth 100000 in
theorem spans_lt (k : Int) (a b : ByteArray) (e1 v1 r1 e2 v2 r2 : ByteArray) (hA : Par a e1 v1 r1 0) (hB : Par b e2 v2 r2 0) (hC : Cmp k a b (-1) 0) (n1 : r1.toList.isEmpty = false) (n2 : r2.toList.isEmpty = false) (hM : ∀ op : Int, inOp op → Mee k op 2 b a (meetsC op 2 (1)) 0) (w : World) :
    Calls Tryd.prog 9 #[.int .i64 k, .string a, .string b] w fun en w' => en = .returned (.bool true) ∧ Below w.heap.size w w' := by
  have H0 := Lib.hid awake_c
  have HA := Lib.hid hA
  have HBB := Lib.hid hB
  have HC := Lib.hid hC
  clear hA hB hC
  have M1 := Lib.hid (hM 1 ⟨by decide, by decide⟩)
  rw [show meetsC 1 2 (1) = true from by decide] at M1
  have M2 := Lib.hid (hM 2 ⟨by decide, by decide⟩)
  rw [show meetsC 2 2 (1) = false from by decide] at M2
  have M3 := Lib.hid (hM 3 ⟨by decide, by decide⟩)
  rw [show meetsC 3 2 (1) = true from by decide] at M3
  have M4 := Lib.hid (hM 4 ⟨by decide, by decide⟩)
  rw [show meetsC 4 2 (1) = false from by decide] at M4
  have M5 := Lib.hid (hM 5 ⟨by decide, by decide⟩)
  rw [show meetsC 5 2 (1) = true from by decide] at M5
  have M6 := Lib.hid (hM 6 ⟨by decide, by decide⟩)
  rw [show meetsC 6 2 (1) = false from by decide] at M6
  have M7 := Lib.hid (hM 7 ⟨by decide, by decide⟩)
  rw [show meetsC 7 2 (1) = true from by decide] at M7
  clear hM
  go_enter Tryd.func9, Tryd.ntmps9
  go_wp2_with fail
  refine (H0.out _).mono ?_
  rintro e w1 ⟨rfl, hb⟩
  have HB1 := Lib.hid hb
  clear hb
  go_wp2_with fail
  refine (HA.out _).mono ?_
  rintro e w2 ⟨rfl, hb⟩
  have HB2 := Lib.hid (below_tr HB1.out hb)
  clear hb HB1
  have HX := Lib.hid (Box3.of (alloc_at w2 (.cells #[.string e1, .string v1, .string r1] 24)))
  go_wp2_with fail
  refine (HBB.out _).mono ?_
  rintro e w3 ⟨rfl, hb⟩
  have HB3 := Lib.hid (below_tr HB2.out (below_tr (below1 w2 (.cells #[.string e1, .string v1, .string r1] 24)) hb))
  have HX2 := Lib.hid ((HX.out.below hb).below (below1 w3 (.cells #[.string e2, .string v2, .string r2] 24)))
  clear hb HX HB2
  have HY := Lib.hid (Box3.of (alloc_at w3 (.cells #[.string e2, .string v2, .string r2] 24)))
  go_wp2_with fail
  refine (HC.out _).mono ?_
  rintro e w4 ⟨rfl, hb⟩
  have HB4 := Lib.hid (below_tr HB3.out (below_tr (below1 w3 (.cells #[.string e2, .string v2, .string r2] 24)) hb))
  have x := HX2.out.below hb
  have y := HY.out.below hb
  clear hb HX2 HY HB3
  obtain ⟨_, _, _, _, _, _, _⟩ := x
  obtain ⟨_, _, _, _, _, _, _⟩ := y
  go_wp2_with fail
  refine (M1.out _).mono ?_
  rintro e w5 ⟨rfl, hb⟩
  have HB5 := Lib.hid (below_tr HB4.out hb)
  clear hb HB4
  go_wp2_with fail
  refine (M2.out _).mono ?_
  rintro e w6 ⟨rfl, hb⟩
  have HB6 := Lib.hid (below_tr HB5.out hb)
  clear hb HB5
  go_wp2_with fail
  refine (M4.out _).mono ?_
  rintro e w7 ⟨rfl, hb⟩
  have HB7 := Lib.hid (below_tr HB6.out hb)
  clear hb HB6
  go_wp2
  go_loopw [20] (fun v wr => ∃ n : Nat, 1 ≤ n ∧ n ≤ 8 ∧ v = .int .i64 n ∧ Hid (Below w.heap.size w wr)) (fun v _ => 8 - (intOf v).toNat)
  case atStart => exact ⟨1, by omega, by omega, rfl, HB7⟩
  case round =>
    obtain ⟨n, hn1, hn2, rfl, HB⟩ := hrel
    have hn : n = 1 ∨ n = 2 ∨ n = 3 ∨ n = 4 ∨ n = 5 ∨ n = 6 ∨ n = 7 ∨ n = 8 := by omega
    clear hn1 hn2
    rcases hn with rfl | rfl | rfl | rfl | rfl | rfl | rfl | rfl
    · go_wp2_with fail
      refine (M1.out _).mono ?_
      rintro e w8 ⟨rfl, hb⟩
      have HB8 := Lib.hid (below_tr HB.out hb)
      clear hb HB
      go_wp2
      go_roundw
      case rel => exact ⟨2, by omega, by omega, by go_num, HB8⟩
      case measure => simp [intOf]
    · go_wp2_with fail
      refine (M2.out _).mono ?_
      rintro e w8 ⟨rfl, hb⟩
      have HB8 := Lib.hid (below_tr HB.out hb)
      clear hb HB
      go_wp2
      go_roundw
      case rel => exact ⟨3, by omega, by omega, by go_num, HB8⟩
      case measure => simp [intOf]
    · go_wp2_with fail
      refine (M3.out _).mono ?_
      rintro e w8 ⟨rfl, hb⟩
      have HB8 := Lib.hid (below_tr HB.out hb)
      clear hb HB
      go_wp2
      go_roundw
      case rel => exact ⟨4, by omega, by omega, by go_num, HB8⟩
      case measure => simp [intOf]
    · go_wp2_with fail
      refine (M4.out _).mono ?_
      rintro e w8 ⟨rfl, hb⟩
      have HB8 := Lib.hid (below_tr HB.out hb)
      clear hb HB
      go_wp2
      go_roundw
      case rel => exact ⟨5, by omega, by omega, by go_num, HB8⟩
      case measure => simp [intOf]
    · go_wp2_with fail
      refine (M5.out _).mono ?_
      rintro e w8 ⟨rfl, hb⟩
      have HB8 := Lib.hid (below_tr HB.out hb)
      clear hb HB
      go_wp2
      go_roundw
      case rel => exact ⟨6, by omega, by omega, by go_num, HB8⟩
      case measure => simp [intOf]
    · go_wp2_with fail
      refine (M6.out _).mono ?_
      rintro e w8 ⟨rfl, hb⟩
      have HB8 := Lib.hid (below_tr HB.out hb)
      clear hb HB
      go_wp2
      go_roundw
      case rel => exact ⟨7, by omega, by omega, by go_num, HB8⟩
      case measure => simp [intOf]
    · go_wp2_with fail
      refine (M7.out _).mono ?_
      rintro e w8 ⟨rfl, hb⟩
      have HB8 := Lib.hid (below_tr HB.out hb)
      clear hb HB
      go_wp2
      go_roundw
      case rel => exact ⟨8, by omega, by omega, by go_num, HB8⟩
      case measure => simp [intOf]
    · go_wp2
      go_ret
      exact ⟨rfl, HB.out⟩

set_option maxHeartbeats 4000000 in
set_option maxRecDepth 100000 in
theorem spans_eq (k : Int) (a b : ByteArray) (e1 v1 r1 e2 v2 r2 : ByteArray) (hA : Par a e1 v1 r1 0) (hB : Par b e2 v2 r2 0) (hC : Cmp k a b (0) 0) (n1 : r1.toList.isEmpty = false) (n2 : r2.toList.isEmpty = false) (hM : ∀ op : Int, inOp op → Mee k op 2 b a (meetsC op 2 (0)) 0) (w : World) :
    Calls Tryd.prog 9 #[.int .i64 k, .string a, .string b] w fun en w' => en = .returned (.bool true) ∧ Below w.heap.size w w' := by
  have H0 := Lib.hid awake_c
  have HA := Lib.hid hA
  have HBB := Lib.hid hB
  have HC := Lib.hid hC
  clear hA hB hC
  have M1 := Lib.hid (hM 1 ⟨by decide, by decide⟩)
  rw [show meetsC 1 2 (0) = false from by decide] at M1
  have M2 := Lib.hid (hM 2 ⟨by decide, by decide⟩)
  rw [show meetsC 2 2 (0) = true from by decide] at M2
  have M3 := Lib.hid (hM 3 ⟨by decide, by decide⟩)
  rw [show meetsC 3 2 (0) = true from by decide] at M3
  have M4 := Lib.hid (hM 4 ⟨by decide, by decide⟩)
  rw [show meetsC 4 2 (0) = false from by decide] at M4
  have M5 := Lib.hid (hM 5 ⟨by decide, by decide⟩)
  rw [show meetsC 5 2 (0) = false from by decide] at M5
  have M6 := Lib.hid (hM 6 ⟨by decide, by decide⟩)
  rw [show meetsC 6 2 (0) = true from by decide] at M6
  have M7 := Lib.hid (hM 7 ⟨by decide, by decide⟩)
  rw [show meetsC 7 2 (0) = true from by decide] at M7
  clear hM
  go_enter Tryd.func9, Tryd.ntmps9
  go_wp2_with fail
  refine (H0.out _).mono ?_
  rintro e w1 ⟨rfl, hb⟩
  have HB1 := Lib.hid hb
  clear hb
  go_wp2_with fail
  refine (HA.out _).mono ?_
  rintro e w2 ⟨rfl, hb⟩
  have HB2 := Lib.hid (below_tr HB1.out hb)
  clear hb HB1
  have HX := Lib.hid (Box3.of (alloc_at w2 (.cells #[.string e1, .string v1, .string r1] 24)))
  go_wp2_with fail
  refine (HBB.out _).mono ?_
  rintro e w3 ⟨rfl, hb⟩
  have HB3 := Lib.hid (below_tr HB2.out (below_tr (below1 w2 (.cells #[.string e1, .string v1, .string r1] 24)) hb))
  have HX2 := Lib.hid ((HX.out.below hb).below (below1 w3 (.cells #[.string e2, .string v2, .string r2] 24)))
  clear hb HX HB2
  have HY := Lib.hid (Box3.of (alloc_at w3 (.cells #[.string e2, .string v2, .string r2] 24)))
  go_wp2_with fail
  refine (HC.out _).mono ?_
  rintro e w4 ⟨rfl, hb⟩
  have HB4 := Lib.hid (below_tr HB3.out (below_tr (below1 w3 (.cells #[.string e2, .string v2, .string r2] 24)) hb))
  have x := HX2.out.below hb
  have y := HY.out.below hb
  clear hb HX2 HY HB3
  obtain ⟨_, _, _, _, _, _, _⟩ := x
  obtain ⟨_, _, _, _, _, _, _⟩ := y
  go_wp2_with fail
  refine (M1.out _).mono ?_
  rintro e w5 ⟨rfl, hb⟩
  have HB5 := Lib.hid (below_tr HB4.out hb)
  clear hb HB4
  go_wp2_with fail
  refine (M2.out _).mono ?_
  rintro e w6 ⟨rfl, hb⟩
  have HB6 := Lib.hid (below_tr HB5.out hb)
  clear hb HB5
  go_wp2_with fail
  refine (M4.out _).mono ?_
  rintro e w7 ⟨rfl, hb⟩
  have HB7 := Lib.hid (below_tr HB6.out hb)
  clear hb HB6
  go_wp2
  go_loopw [20] (fun v wr => ∃ n : Nat, 1 ≤ n ∧ n ≤ 8 ∧ v = .int .i64 n ∧ Hid (Below w.heap.size w wr)) (fun v _ => 8 - (intOf v).toNat)
  case atStart => exact ⟨1, by omega, by omega, rfl, HB7⟩
  case round =>
    obtain ⟨n, hn1, hn2, rfl, HB⟩ := hrel
    have hn : n = 1 ∨ n = 2 ∨ n = 3 ∨ n = 4 ∨ n = 5 ∨ n = 6 ∨ n = 7 ∨ n = 8 := by omega
    clear hn1 hn2
    rcases hn with rfl | rfl | rfl | rfl | rfl | rfl | rfl | rfl
    · go_wp2_with fail
      refine (M1.out _).mono ?_
      rintro e w8 ⟨rfl, hb⟩
      have HB8 := Lib.hid (below_tr HB.out hb)
      clear hb HB
      go_wp2
      go_roundw
      case rel => exact ⟨2, by omega, by omega, by go_num, HB8⟩
      case measure => simp [intOf]
    · go_wp2_with fail
      refine (M2.out _).mono ?_
      rintro e w8 ⟨rfl, hb⟩
      have HB8 := Lib.hid (below_tr HB.out hb)
      clear hb HB
      go_wp2
      go_roundw
      case rel => exact ⟨3, by omega, by omega, by go_num, HB8⟩
      case measure => simp [intOf]
    · go_wp2_with fail
      refine (M3.out _).mono ?_
      rintro e w8 ⟨rfl, hb⟩
      have HB8 := Lib.hid (below_tr HB.out hb)
      clear hb HB
      go_wp2
      go_roundw
      case rel => exact ⟨4, by omega, by omega, by go_num, HB8⟩
      case measure => simp [intOf]
    · go_wp2_with fail
      refine (M4.out _).mono ?_
      rintro e w8 ⟨rfl, hb⟩
      have HB8 := Lib.hid (below_tr HB.out hb)
      clear hb HB
      go_wp2
      go_roundw
      case rel => exact ⟨5, by omega, by omega, by go_num, HB8⟩
      case measure => simp [intOf]
    · go_wp2_with fail
      refine (M5.out _).mono ?_
      rintro e w8 ⟨rfl, hb⟩
      have HB8 := Lib.hid (below_tr HB.out hb)
      clear hb HB
      go_wp2
      go_roundw
      case rel => exact ⟨6, by omega, by omega, by go_num, HB8⟩
      case measure => simp [intOf]
    · go_wp2_with fail
      refine (M6.out _).mono ?_
      rintro e w8 ⟨rfl, hb⟩
      have HB8 := Lib.hid (below_tr HB.out hb)
      clear hb HB
      go_wp2
      go_roundw
      case rel => exact ⟨7, by omega, by omega, by go_num, HB8⟩
      case measure => simp [intOf]
    · go_wp2_with fail
      refine (M7.out _).mono ?_
      rintro e w8 ⟨rfl, hb⟩
      have HB8 := Lib.hid (below_tr HB.out hb)
      clear hb HB
      go_wp2
      go_roundw
      case rel => exact ⟨8, by omega, by omega, by go_num, HB8⟩
      case measure => simp [intOf]
    · go_wp2
      go_ret
      exact ⟨rfl, HB.out⟩

set_option maxHeartbeats 4000000 in
set_option maxRecDepth 100000 in
theorem spans_gt (k : Int) (a b : ByteArray) (e1 v1 r1 e2 v2 r2 : ByteArray) (hA : Par a e1 v1 r1 0) (hB : Par b e2 v2 r2 0) (hC : Cmp k a b (1) 0) (n1 : r1.toList.isEmpty = false) (n2 : r2.toList.isEmpty = false) (hM : ∀ op : Int, inOp op → Mee k op 2 b a (meetsC op 2 (-1)) 0) (w : World) :
    Calls Tryd.prog 9 #[.int .i64 k, .string a, .string b] w fun en w' => en = .returned (.bool true) ∧ Below w.heap.size w w' := by
  have H0 := Lib.hid awake_c
  have HA := Lib.hid hA
  have HBB := Lib.hid hB
  have HC := Lib.hid hC
  clear hA hB hC
  have M1 := Lib.hid (hM 1 ⟨by decide, by decide⟩)
  rw [show meetsC 1 2 (-1) = false from by decide] at M1
  have M2 := Lib.hid (hM 2 ⟨by decide, by decide⟩)
  rw [show meetsC 2 2 (-1) = false from by decide] at M2
  have M3 := Lib.hid (hM 3 ⟨by decide, by decide⟩)
  rw [show meetsC 3 2 (-1) = false from by decide] at M3
  have M4 := Lib.hid (hM 4 ⟨by decide, by decide⟩)
  rw [show meetsC 4 2 (-1) = true from by decide] at M4
  have M5 := Lib.hid (hM 5 ⟨by decide, by decide⟩)
  rw [show meetsC 5 2 (-1) = true from by decide] at M5
  have M6 := Lib.hid (hM 6 ⟨by decide, by decide⟩)
  rw [show meetsC 6 2 (-1) = true from by decide] at M6
  have M7 := Lib.hid (hM 7 ⟨by decide, by decide⟩)
  rw [show meetsC 7 2 (-1) = true from by decide] at M7
  clear hM
  go_enter Tryd.func9, Tryd.ntmps9
  go_wp2_with fail
  refine (H0.out _).mono ?_
  rintro e w1 ⟨rfl, hb⟩
  have HB1 := Lib.hid hb
  clear hb
  go_wp2_with fail
  refine (HA.out _).mono ?_
  rintro e w2 ⟨rfl, hb⟩
  have HB2 := Lib.hid (below_tr HB1.out hb)
  clear hb HB1
  have HX := Lib.hid (Box3.of (alloc_at w2 (.cells #[.string e1, .string v1, .string r1] 24)))
  go_wp2_with fail
  refine (HBB.out _).mono ?_
  rintro e w3 ⟨rfl, hb⟩
  have HB3 := Lib.hid (below_tr HB2.out (below_tr (below1 w2 (.cells #[.string e1, .string v1, .string r1] 24)) hb))
  have HX2 := Lib.hid ((HX.out.below hb).below (below1 w3 (.cells #[.string e2, .string v2, .string r2] 24)))
  clear hb HX HB2
  have HY := Lib.hid (Box3.of (alloc_at w3 (.cells #[.string e2, .string v2, .string r2] 24)))
  go_wp2_with fail
  refine (HC.out _).mono ?_
  rintro e w4 ⟨rfl, hb⟩
  have HB4 := Lib.hid (below_tr HB3.out (below_tr (below1 w3 (.cells #[.string e2, .string v2, .string r2] 24)) hb))
  have x := HX2.out.below hb
  have y := HY.out.below hb
  clear hb HX2 HY HB3
  obtain ⟨_, _, _, _, _, _, _⟩ := x
  obtain ⟨_, _, _, _, _, _, _⟩ := y
  go_wp2_with fail
  refine (M1.out _).mono ?_
  rintro e w5 ⟨rfl, hb⟩
  have HB5 := Lib.hid (below_tr HB4.out hb)
  clear hb HB4
  go_wp2_with fail
  refine (M2.out _).mono ?_
  rintro e w6 ⟨rfl, hb⟩
  have HB6 := Lib.hid (below_tr HB5.out hb)
  clear hb HB5
  go_wp2_with fail
  refine (M4.out _).mono ?_
  rintro e w7 ⟨rfl, hb⟩
  have HB7 := Lib.hid (below_tr HB6.out hb)
  clear hb HB6
  go_wp2
  go_loopw [20] (fun v wr => ∃ n : Nat, 1 ≤ n ∧ n ≤ 8 ∧ v = .int .i64 n ∧ Hid (Below w.heap.size w wr)) (fun v _ => 8 - (intOf v).toNat)
  case atStart => exact ⟨1, by omega, by omega, rfl, HB7⟩
  case round =>
    obtain ⟨n, hn1, hn2, rfl, HB⟩ := hrel
    have hn : n = 1 ∨ n = 2 ∨ n = 3 ∨ n = 4 ∨ n = 5 ∨ n = 6 ∨ n = 7 ∨ n = 8 := by omega
    clear hn1 hn2
    rcases hn with rfl | rfl | rfl | rfl | rfl | rfl | rfl | rfl
    · go_wp2_with fail
      refine (M1.out _).mono ?_
      rintro e w8 ⟨rfl, hb⟩
      have HB8 := Lib.hid (below_tr HB.out hb)
      clear hb HB
      go_wp2
      go_roundw
      case rel => exact ⟨2, by omega, by omega, by go_num, HB8⟩
      case measure => simp [intOf]
    · go_wp2_with fail
      refine (M2.out _).mono ?_
      rintro e w8 ⟨rfl, hb⟩
      have HB8 := Lib.hid (below_tr HB.out hb)
      clear hb HB
      go_wp2
      go_roundw
      case rel => exact ⟨3, by omega, by omega, by go_num, HB8⟩
      case measure => simp [intOf]
    · go_wp2_with fail
      refine (M3.out _).mono ?_
      rintro e w8 ⟨rfl, hb⟩
      have HB8 := Lib.hid (below_tr HB.out hb)
      clear hb HB
      go_wp2
      go_roundw
      case rel => exact ⟨4, by omega, by omega, by go_num, HB8⟩
      case measure => simp [intOf]
    · go_wp2_with fail
      refine (M4.out _).mono ?_
      rintro e w8 ⟨rfl, hb⟩
      have HB8 := Lib.hid (below_tr HB.out hb)
      clear hb HB
      go_wp2
      go_roundw
      case rel => exact ⟨5, by omega, by omega, by go_num, HB8⟩
      case measure => simp [intOf]
    · go_wp2_with fail
      refine (M5.out _).mono ?_
      rintro e w8 ⟨rfl, hb⟩
      have HB8 := Lib.hid (below_tr HB.out hb)
      clear hb HB
      go_wp2
      go_roundw
      case rel => exact ⟨6, by omega, by omega, by go_num, HB8⟩
      case measure => simp [intOf]
    · go_wp2_with fail
      refine (M6.out _).mono ?_
      rintro e w8 ⟨rfl, hb⟩
      have HB8 := Lib.hid (below_tr HB.out hb)
      clear hb HB
      go_wp2
      go_roundw
      case rel => exact ⟨7, by omega, by omega, by go_num, HB8⟩
      case measure => simp [intOf]
    · go_wp2_with fail
      refine (M7.out _).mono ?_
      rintro e w8 ⟨rfl, hb⟩
      have HB8 := Lib.hid (below_tr HB.out hb)
      clear hb HB
      go_wp2
      go_roundw
      case rel => exact ⟨8, by omega, by omega, by go_num, HB8⟩
      case measure => simp [intOf]
    · go_wp2
      go_ret
      exact ⟨rfl, HB.out⟩

theorem spans_walk (k : Int) (a b : ByteArray) (ha : a.size ≤ maxLen) (hb : b.size ≤ maxLen) (w : World) :
    Calls Tryd.prog 9 #[.int .i64 k, .string a, .string b] w fun en w' => en = .returned (.bool true) ∧ Below w.heap.size w w' := by
  have hC := Cmp.of (k := k) ha hb
  rcases Par.of ha with ⟨e1, v1, r1, hA, pa⟩ | ⟨hA, pa⟩
  · rcases Par.of hb with ⟨e2, v2, r2, hB, pb⟩ | ⟨hB, pb⟩
    · by_cases hg : (compareE k (bs a) (bs b)).2 = 0
      · obtain ⟨x, y, px, py, hk, hv⟩ := compareE_zero hg
        rw [pa] at px
        rw [pb] at py
        cases px
        cases py
        rw [hv] at hC
        by_cases h1 : r1.size = 0
        · obtain rfl := bs_zero h1
          exact spans_r1 k a b _ _ _ _ _ _ hA hB hC w
        · have n1 := bs_nonempty (s := r1) (by omega)
          by_cases h2 : r2.size = 0
          · obtain rfl := bs_zero h2
            exact spans_r2 k a b _ _ _ _ _ _ hA hB hC n1 w
          · have n2 := bs_nonempty (s := r2) (by omega)
            have hM : ∀ op : Int, inOp op → Mee k op 2 b a (meetsC op 2 (allC k (bs e2, bs v2, bs r2) (bs e1, bs v1, bs r1))) 0 := by
              intro op ho
              have h := Mee.of (k := k) (op := op) (o := 2) hb ha
              rw [meetsE_ok (by unfold badArgs; unfold inOp at ho; omega) (by unfold inOp at ho; omega) pb pa] at h
              have e : relP k (bs e2, bs v2, bs r2) (bs e1, bs v1, bs r1) = allC k (bs e2, bs v2, bs r2) (bs e1, bs v1, bs r1) := by
                unfold relP allC
                generalize (partsC k (bs e2, bs v2, bs r2) (bs e1, bs v1, bs r1)).1 = c0
                generalize (partsC k (bs e2, bs v2, bs r2) (bs e1, bs v1, bs r1)).2 = d0
                by_cases hz : c0 = 0
                · rw [if_pos ⟨hz, fun e => h2 (bs_nil.1 e), fun e => h1 (bs_nil.1 e)⟩, if_neg (fun h => h hz)]
                · rw [if_neg (fun h => hz h.1), if_pos hz]
              rw [e] at h
              exact h
            have hanti := (allC_cmp k).anti (bs e2, bs v2, bs r2) (bs e1, bs v1, bs r1)
            have htri := (allC_cmp k).tri (bs e2, bs v2, bs r2) (bs e1, bs v1, bs r1)
            rw [hanti] at hC
            generalize allC k (bs e2, bs v2, bs r2) (bs e1, bs v1, bs r1) = q at *
            rcases htri with rfl | rfl | rfl
            · exact spans_gt k a b _ _ _ _ _ _ hA hB hC n1 n2 hM w
            · exact spans_eq k a b _ _ _ _ _ _ hA hB hC n1 n2 hM w
            · exact spans_lt k a b _ _ _ _ _ _ hA hB hC n1 n2 hM w
      · exact spans_err k a b _ _ _ _ _ _ _ _ _ _ hA hB hC (.inr (.inr hg)) w
    · exact spans_err k a b _ _ _ _ _ _ _ _ _ _ hA hB hC (.inr (.inl (by decide))) w
  · rcases Par.of hb with ⟨e2, v2, r2, hB, pb⟩ | ⟨hB, pb⟩
    · exact spans_err k a b _ _ _ _ _ _ _ _ _ _ hA hB hC (.inl (by decide)) w
    · exact spans_err k a b _ _ _ _ _ _ _ _ _ _ hA hB hC (.inl (by decide)) w
end Go.Proofs.YtgggbjkgpjcklaaDoor
