/-
  Two versions parsed; Compare; Meets: the contracts. Helper text; the conditions are those typed.
-/
import Derived.Test.YtgggbjkgpjcklaaDoorWalkH
namespace Go.Proofs.YtgggbjkgpjcklaaDoor
set_option linter.unusedVariables false
set_option linter.unusedSimpArgs false
open Go.RowKit

theorem parse2_len {e r : List UInt8} {x : Parts} (h : parse2 e r = some x) : x.1.length ≤ e.length ∧ x.2.1.length ≤ r.length ∧ x.2.2.length ≤ r.length := by
  unfold parse2 at h
  cases hj : li 45 r with
  | some j =>
    rw [hj] at h
    simp only at h
    split at h
    · cases h
    · split at h
      · cases h
      · cases h
        simp only [List.length_take, List.length_drop]
        omega
  | none =>
    rw [hj] at h
    simp only at h
    split at h
    · cases h
    · cases h
      simp
theorem parse_len {l : List UInt8} {x : Parts} (h : parse l = some x) : x.1.length ≤ 60 ∧ x.2.1.length ≤ 60 ∧ x.2.2.length ≤ 60 := by
  unfold parse at h
  by_cases ho : okText l = false
  · rw [if_pos ho] at h; cases h
  · rw [if_neg ho] at h
    have hl : l.length ≤ 60 := by
      simp only [Bool.not_eq_false] at ho
      unfold okText at ho
      simp only [Bool.and_eq_true, decide_eq_true_eq] at ho
      exact ho.1.2
    cases hi : fi 58 l with
    | some i =>
      rw [hi] at h
      simp only at h
      split at h
      · cases h
      · have := parse2_len h
        simp only [List.length_take, List.length_drop] at this
        omega
    | none =>
      rw [hi] at h
      have := parse2_len h
      simp only [List.length_nil] at this
      omega
theorem parse_form {l : List UInt8} {x : Parts} (h : parse l = some x) : ∃ e v r : ByteArray, x = (bs e, bs v, bs r) ∧ e.size ≤ 60 ∧ v.size ≤ 60 ∧ r.size ≤ 60 := by
  obtain ⟨h1, h2, h3⟩ := parse_len h
  exact ⟨⟨x.1.toArray⟩, ⟨x.2.1.toArray⟩, ⟨x.2.2.toArray⟩, rfl, by rw [← bs_length]; exact h1, by rw [← bs_length]; exact h2, by rw [← bs_length]; exact h3⟩

theorem parse_some {s : ByteArray} (hs : s.size ≤ maxLen) {e v r : ByteArray} (h : parse (bs s) = some (bs e, bs v, bs r)) (w : World) :
    Calls Tryd.prog 12 #[.string s] w fun en w' => en = .returned (.tuple #[.agg #[.string e, .string v, .string r], .int .i64 0]) ∧ Below w.heap.size w w' := by
  have := parse_c s hs w
  rw [h] at this
  exact this.mono fun en w' ⟨h1, h2⟩ => ⟨by rw [h1, evrV_some]; rfl, h2⟩
theorem parse_none {s : ByteArray} (hs : s.size ≤ maxLen) (h : parse (bs s) = none) (w : World) :
    Calls Tryd.prog 12 #[.string s] w fun en w' => en = .returned (.tuple #[.agg #[.string ⟨#[]⟩, .string ⟨#[]⟩, .string ⟨#[]⟩], .int .i64 30]) ∧ Below w.heap.size w w' := by
  have := parse_c s hs w
  rw [h] at this
  exact this

theorem below_sc {B b : Nat} {w w' : World} (h : Below B w w') (hb : B ≤ b) (o : Nat) (v : Value) : Below B w (w'.setCell ⟨b, o, none⟩ v) := h.setCell (p := ⟨b, o, none⟩) hb v

/-- A box of three texts. -/
structure Box3 (W : World) (b : Nat) (x y z : ByteArray) : Prop where
  at_ : W.heap[b]? = some (.cells #[.string x, .string y, .string z] 24 (0, 0))
  c0 : W.cell? ⟨b, 0, none⟩ = some (.string x)
  c1 : W.cell? ⟨b, 1, none⟩ = some (.string y)
  c2 : W.cell? ⟨b, 2, none⟩ = some (.string z)
  f0 : W.frozen? ⟨b, 0, none⟩ = false
  f1 : W.frozen? ⟨b, 1, none⟩ = false
  f2 : W.frozen? ⟨b, 2, none⟩ = false
theorem Box3.of {W : World} {b : Nat} {x y z : ByteArray} (h : W.heap[b]? = some (.cells #[.string x, .string y, .string z] 24 (0, 0))) : Box3 W b x y z :=
  ⟨h, by unfold World.cell?; simp only [h]; rfl, by unfold World.cell?; simp only [h]; rfl, by unfold World.cell?; simp only [h]; rfl, by unfold World.frozen?; simp only [h]; rfl, by unfold World.frozen?; simp only [h]; rfl, by unfold World.frozen?; simp only [h]; rfl⟩
theorem Box3.lt {W : World} {b : Nat} {x y z : ByteArray} (h : Box3 W b x y z) : b < W.heap.size := World.block_lt_of_cell? W _ h.c0
theorem Box3.below {W W' : World} {b : Nat} {x y z : ByteArray} (h : Box3 W b x y z) (hb : Below W.heap.size W W') : Box3 W' b x y z := .of ((hb.block _ h.lt).trans h.at_)
theorem Box3.dr {W : World} {b : Nat} {x y z : ByteArray} (h : Box3 W b x y z) : Box3 W.drew b x y z := .of h.at_
theorem Box3.set {W : World} {b : Nat} {x y z : ByteArray} (h : Box3 W b x y z) (x' y' z' : ByteArray) : Box3 (((W.setCell ⟨b, 0, none⟩ (.string x')).setCell ⟨b, 1, none⟩ (.string y')).setCell ⟨b, 2, none⟩ (.string z')) b x' y' z' := by
  refine .of ?_
  have h := h.at_
  unfold World.setCell
  simp [Array.getElem?_modify, h]
theorem Box3.other {W : World} {b c o : Nat} {v : Value} {x y z : ByteArray} (h : Box3 W b x y z) (hc : c ≠ b) : Box3 (W.setCell ⟨c, o, none⟩ v) b x y z := by
  refine .of ?_
  have h := h.at_
  unfold World.setCell
  simp [Array.getElem?_modify, h, hc]
theorem boxes2 (w : World) (x y z x' y' z' : ByteArray) : Box3 ((w.alloc (.cells #[.string x, .string y, .string z] 24)).alloc (.cells #[.string x', .string y', .string z'] 24)) w.heap.size x y z ∧
    Box3 ((w.alloc (.cells #[.string x, .string y, .string z] 24)).alloc (.cells #[.string x', .string y', .string z'] 24)) (w.heap.size + 1) x' y' z' := by
  refine ⟨.of ?_, .of ?_⟩
  · rw [Below.heap_alloc _ _ _ (by simp)]
    exact alloc_at w _
  · have := alloc_at (w.alloc (.cells #[.string x, .string y, .string z] 24)) (.cells #[.string x', .string y', .string z'] 24)
    rwa [World.size_alloc] at this

theorem both_bad (k : Int) (h1 : k ≠ 1) (h2 : k ≠ 2) (a b : ByteArray) (w : World) :
    Calls Tryd.prog 30 #[.int .i64 k, .string a, .string b] w fun en w' => en = .returned (.tuple #[.agg #[.string ⟨#[]⟩, .string ⟨#[]⟩, .string ⟨#[]⟩], .agg #[.string ⟨#[]⟩, .string ⟨#[]⟩, .string ⟨#[]⟩], .int .i64 1]) ∧ Below w.heap.size w w' := by
  have hB1 : (k != 1) = true := by simpa using h1
  have hB2 : (k != 2) = true := by simpa using h2
  go_enter Tryd.func30, Tryd.ntmps30
  go_wp2
  go_region
  go_wp2
  refine bodyPost_ret (v := .tuple #[.agg #[.string ⟨#[]⟩, .string ⟨#[]⟩, .string ⟨#[]⟩], .agg #[.string ⟨#[]⟩, .string ⟨#[]⟩, .string ⟨#[]⟩], .int .i64 1]) (by simp [results, Tryd.results30, go_sem]) rfl ⟨rfl, ?_⟩
  repeat (first | exact below2 _ _ _ | (refine below_sc ?_ (by simp) _ _) | (refine Below.drew ?_) | (refine Below.drewN ?_ _))

set_option maxHeartbeats 1000000 in
theorem both_a (k : Int) (hk : k = 1 ∨ k = 2) (a b : ByteArray) (ha : a.size ≤ maxLen) (h : parse (bs a) = none) (w : World) :
    Calls Tryd.prog 30 #[.int .i64 k, .string a, .string b] w fun en w' => en = .returned (.tuple #[.agg #[.string ⟨#[]⟩, .string ⟨#[]⟩, .string ⟨#[]⟩], .agg #[.string ⟨#[]⟩, .string ⟨#[]⟩, .string ⟨#[]⟩], .int .i64 30]) ∧ Below w.heap.size w w' := by
  have HP := Lib.hid (parse_none ha h)
  clear h ha
  have hbx := boxes2 w ⟨#[]⟩ ⟨#[]⟩ ⟨#[]⟩ ⟨#[]⟩ ⟨#[]⟩ ⟨#[]⟩
  have HX := Lib.hid hbx
  clear hbx
  rcases hk with rfl | rfl
  all_goals
    go_enter Tryd.func30, Tryd.ntmps30
    go_wp2_with fail
    refine (HP.out _).mono ?_
    rintro e w1 ⟨rfl, hb⟩
    have x1 := HX.out.1.below hb
    have x2 := HX.out.2.below hb
    have HB := Lib.hid ((below2 w _ _).trans (below_to hb (by simp; omega)))
    have X1 := Lib.hid x1
    have X2 := Lib.hid x2
    clear hb HX
    obtain ⟨_, _, _, _, _, _, _⟩ := x1
    obtain ⟨_, _, _, _, _, _, _⟩ := x2
    go_wp2_with fail
    obtain ⟨w2, en⟩ : ∃ w2, (((w1.setCell ⟨w.heap.size, 0, none⟩ (.string ⟨#[]⟩)).setCell ⟨w.heap.size, 1, none⟩ (.string ⟨#[]⟩)).setCell ⟨w.heap.size, 2, none⟩ (.string ⟨#[]⟩)) = w2 := ⟨_, rfl⟩
    have y1 := X1.out.set ⟨#[]⟩ ⟨#[]⟩ ⟨#[]⟩
    have y2 := ((X2.out.other (c := w.heap.size) (o := 0) (v := .string ⟨#[]⟩) (by omega)).other (c := w.heap.size) (o := 1) (v := .string ⟨#[]⟩) (by omega)).other (c := w.heap.size) (o := 2) (v := .string ⟨#[]⟩) (by omega)
    have HB2 : Hid (Below w.heap.size w (((w1.setCell ⟨w.heap.size, 0, none⟩ (.string ⟨#[]⟩)).setCell ⟨w.heap.size, 1, none⟩ (.string ⟨#[]⟩)).setCell ⟨w.heap.size, 2, none⟩ (.string ⟨#[]⟩))) := below_sc (below_sc (below_sc HB.out (by omega) _ _) (by omega) _ _) (by omega) _ _
    clear HB X1 X2
    rw [en] at y1 y2 HB2
    rw [en]
    clear en
    obtain ⟨_, p0, p1, p2, _, _, _⟩ := y1
    obtain ⟨_, q0, q1, q2, _, _, _⟩ := y2
    go_region
    go_wp2
    refine bodyPost_ret (v := .tuple #[.agg #[.string ⟨#[]⟩, .string ⟨#[]⟩, .string ⟨#[]⟩], .agg #[.string ⟨#[]⟩, .string ⟨#[]⟩, .string ⟨#[]⟩], .int .i64 30]) (by simp [results, Tryd.results30, go_sem, p0, p1, p2, q0, q1, q2]) rfl ⟨rfl, ?_⟩

    repeat (first | (with_reducible exact HB2.out) | (with_reducible refine below_sc ?_ (by omega) _ _) | (with_reducible refine Below.drew ?_))

set_option maxHeartbeats 1000000 in
theorem both_b (k : Int) (hk : k = 1 ∨ k = 2) (a b : ByteArray) (ha : a.size ≤ maxLen) (hb : b.size ≤ maxLen) {e1 v1 r1 : ByteArray} (h : parse (bs a) = some (bs e1, bs v1, bs r1)) (h' : parse (bs b) = none) (w : World) :
    Calls Tryd.prog 30 #[.int .i64 k, .string a, .string b] w fun en w' => en = .returned (.tuple #[.agg #[.string e1, .string v1, .string r1], .agg #[.string ⟨#[]⟩, .string ⟨#[]⟩, .string ⟨#[]⟩], .int .i64 30]) ∧ Below w.heap.size w w' := by
  have HP := Lib.hid (parse_some ha h)
  have HQ := Lib.hid (parse_none hb h')
  clear h ha h' hb
  have hbx := boxes2 w ⟨#[]⟩ ⟨#[]⟩ ⟨#[]⟩ ⟨#[]⟩ ⟨#[]⟩ ⟨#[]⟩
  have HX := Lib.hid hbx
  clear hbx
  rcases hk with rfl | rfl
  all_goals
    go_enter Tryd.func30, Tryd.ntmps30
    go_wp2_with fail
    refine (HP.out _).mono ?_
    rintro e w1 ⟨rfl, hb⟩
    have x1 := HX.out.1.below hb
    have x2 := HX.out.2.below hb
    have HB := Lib.hid ((below2 w _ _).trans (below_to hb (by simp; omega)))
    have X1 := Lib.hid x1
    have X2 := Lib.hid x2
    clear hb HX
    obtain ⟨_, _, _, _, _, _, _⟩ := x1
    obtain ⟨_, _, _, _, _, _, _⟩ := x2
    go_wp2_with fail
    obtain ⟨w2, en⟩ : ∃ w2, (((w1.setCell ⟨w.heap.size, 0, none⟩ (.string e1)).setCell ⟨w.heap.size, 1, none⟩ (.string v1)).setCell ⟨w.heap.size, 2, none⟩ (.string r1)) = w2 := ⟨_, rfl⟩
    have y1 := X1.out.set e1 v1 r1
    have y2 := ((X2.out.other (c := w.heap.size) (o := 0) (v := .string e1) (by omega)).other (c := w.heap.size) (o := 1) (v := .string v1) (by omega)).other (c := w.heap.size) (o := 2) (v := .string r1) (by omega)
    have HB2 : Hid (Below w.heap.size w (((w1.setCell ⟨w.heap.size, 0, none⟩ (.string e1)).setCell ⟨w.heap.size, 1, none⟩ (.string v1)).setCell ⟨w.heap.size, 2, none⟩ (.string r1))) := below_sc (below_sc (below_sc HB.out (by omega) _ _) (by omega) _ _) (by omega) _ _
    clear HB X1 X2
    rw [en] at y1 y2 HB2
    rw [en]
    clear en
    refine (HQ.out _).mono ?_
    rintro e w3 ⟨rfl, hb⟩
    have HB3 := Lib.hid (HB2.out.trans (below_to hb HB2.out.size))
    have x1 := y1.below hb
    have x2 := y2.below hb
    have X1 := Lib.hid x1
    have X2 := Lib.hid x2
    clear hb y1 y2 HB2
    obtain ⟨_, _, _, _, _, _, _⟩ := x1
    obtain ⟨_, _, _, _, _, _, _⟩ := x2
    go_wp2_with fail
    obtain ⟨w4, en⟩ : ∃ w4, (((w3.setCell ⟨w.heap.size + 1, 0, none⟩ (.string ⟨#[]⟩)).setCell ⟨w.heap.size + 1, 1, none⟩ (.string ⟨#[]⟩)).setCell ⟨w.heap.size + 1, 2, none⟩ (.string ⟨#[]⟩)) = w4 := ⟨_, rfl⟩
    have y2 := X2.out.set ⟨#[]⟩ ⟨#[]⟩ ⟨#[]⟩
    have y1 := ((X1.out.other (c := w.heap.size + 1) (o := 0) (v := .string ⟨#[]⟩) (by omega)).other (c := w.heap.size + 1) (o := 1) (v := .string ⟨#[]⟩) (by omega)).other (c := w.heap.size + 1) (o := 2) (v := .string ⟨#[]⟩) (by omega)
    have HB4 : Hid (Below w.heap.size w (((w3.setCell ⟨w.heap.size + 1, 0, none⟩ (.string ⟨#[]⟩)).setCell ⟨w.heap.size + 1, 1, none⟩ (.string ⟨#[]⟩)).setCell ⟨w.heap.size + 1, 2, none⟩ (.string ⟨#[]⟩))) := below_sc (below_sc (below_sc HB3.out (by omega) _ _) (by omega) _ _) (by omega) _ _
    clear HB3 X1 X2
    rw [en] at y1 y2 HB4
    rw [en]
    clear en
    obtain ⟨_, p0, p1, p2, _, _, _⟩ := y1
    obtain ⟨_, q0, q1, q2, _, _, _⟩ := y2
    go_region
    go_wp2
    refine bodyPost_ret (v := .tuple #[.agg #[.string e1, .string v1, .string r1], .agg #[.string ⟨#[]⟩, .string ⟨#[]⟩, .string ⟨#[]⟩], .int .i64 30]) (by simp [results, Tryd.results30, go_sem, p0, p1, p2, q0, q1, q2]) rfl ⟨rfl, ?_⟩

    repeat (first | (with_reducible exact HB4.out) | (with_reducible refine below_sc ?_ (by omega) _ _) | (with_reducible refine Below.drew ?_))

set_option maxHeartbeats 1000000 in
theorem both_ok (k : Int) (hk : k = 1 ∨ k = 2) (a b : ByteArray) (ha : a.size ≤ maxLen) (hb : b.size ≤ maxLen) {e1 v1 r1 e2 v2 r2 : ByteArray} (h : parse (bs a) = some (bs e1, bs v1, bs r1)) (h' : parse (bs b) = some (bs e2, bs v2, bs r2)) (w : World) :
    Calls Tryd.prog 30 #[.int .i64 k, .string a, .string b] w fun en w' => en = .returned (.tuple #[.agg #[.string e1, .string v1, .string r1], .agg #[.string e2, .string v2, .string r2], .int .i64 0]) ∧ Below w.heap.size w w' := by
  have HP := Lib.hid (parse_some ha h)
  have HQ := Lib.hid (parse_some hb h')
  clear h ha h' hb
  have hbx := boxes2 w ⟨#[]⟩ ⟨#[]⟩ ⟨#[]⟩ ⟨#[]⟩ ⟨#[]⟩ ⟨#[]⟩
  have HX := Lib.hid hbx
  clear hbx
  rcases hk with rfl | rfl
  all_goals
    go_enter Tryd.func30, Tryd.ntmps30
    go_wp2_with fail
    refine (HP.out _).mono ?_
    rintro e w1 ⟨rfl, hb⟩
    have x1 := HX.out.1.below hb
    have x2 := HX.out.2.below hb
    have HB := Lib.hid ((below2 w _ _).trans (below_to hb (by simp; omega)))
    have X1 := Lib.hid x1
    have X2 := Lib.hid x2
    clear hb HX
    obtain ⟨_, _, _, _, _, _, _⟩ := x1
    obtain ⟨_, _, _, _, _, _, _⟩ := x2
    go_wp2_with fail
    obtain ⟨w2, en⟩ : ∃ w2, (((w1.setCell ⟨w.heap.size, 0, none⟩ (.string e1)).setCell ⟨w.heap.size, 1, none⟩ (.string v1)).setCell ⟨w.heap.size, 2, none⟩ (.string r1)) = w2 := ⟨_, rfl⟩
    have y1 := X1.out.set e1 v1 r1
    have y2 := ((X2.out.other (c := w.heap.size) (o := 0) (v := .string e1) (by omega)).other (c := w.heap.size) (o := 1) (v := .string v1) (by omega)).other (c := w.heap.size) (o := 2) (v := .string r1) (by omega)
    have HB2 : Hid (Below w.heap.size w (((w1.setCell ⟨w.heap.size, 0, none⟩ (.string e1)).setCell ⟨w.heap.size, 1, none⟩ (.string v1)).setCell ⟨w.heap.size, 2, none⟩ (.string r1))) := below_sc (below_sc (below_sc HB.out (by omega) _ _) (by omega) _ _) (by omega) _ _
    clear HB X1 X2
    rw [en] at y1 y2 HB2
    rw [en]
    clear en
    refine (HQ.out _).mono ?_
    rintro e w3 ⟨rfl, hb⟩
    have HB3 := Lib.hid (HB2.out.trans (below_to hb HB2.out.size))
    have x1 := y1.below hb
    have x2 := y2.below hb
    have X1 := Lib.hid x1
    have X2 := Lib.hid x2
    clear hb y1 y2 HB2
    obtain ⟨_, _, _, _, _, _, _⟩ := x1
    obtain ⟨_, _, _, _, _, _, _⟩ := x2
    go_wp2_with fail
    obtain ⟨w4, en⟩ : ∃ w4, (((w3.setCell ⟨w.heap.size + 1, 0, none⟩ (.string e2)).setCell ⟨w.heap.size + 1, 1, none⟩ (.string v2)).setCell ⟨w.heap.size + 1, 2, none⟩ (.string r2)) = w4 := ⟨_, rfl⟩
    have y2 := X2.out.set e2 v2 r2
    have y1 := ((X1.out.other (c := w.heap.size + 1) (o := 0) (v := .string e2) (by omega)).other (c := w.heap.size + 1) (o := 1) (v := .string v2) (by omega)).other (c := w.heap.size + 1) (o := 2) (v := .string r2) (by omega)
    have HB4 : Hid (Below w.heap.size w (((w3.setCell ⟨w.heap.size + 1, 0, none⟩ (.string e2)).setCell ⟨w.heap.size + 1, 1, none⟩ (.string v2)).setCell ⟨w.heap.size + 1, 2, none⟩ (.string r2))) := below_sc (below_sc (below_sc HB3.out (by omega) _ _) (by omega) _ _) (by omega) _ _
    clear HB3 X1 X2
    rw [en] at y1 y2 HB4
    rw [en]
    clear en
    obtain ⟨_, p0, p1, p2, _, _, _⟩ := y1
    obtain ⟨_, q0, q1, q2, _, _, _⟩ := y2
    go_region
    go_wp2
    refine bodyPost_ret (v := .tuple #[.agg #[.string e1, .string v1, .string r1], .agg #[.string e2, .string v2, .string r2], .int .i64 0]) (by simp [results, Tryd.results30, go_sem, p0, p1, p2, q0, q1, q2]) rfl ⟨rfl, ?_⟩

    repeat (first | (with_reducible exact HB4.out) | (with_reducible refine below_sc ?_ (by omega) _ _) | (with_reducible refine Below.drew ?_))

theorem compareE_bad {k : Int} (h1 : k ≠ 1) (h2 : k ≠ 2) (a b : List UInt8) : compareE k a b = (0, 1) := by
  unfold compareE
  rw [if_pos ⟨h1, h2⟩]
theorem compareE_none {k : Int} (hk : k = 1 ∨ k = 2) {a b : List UInt8} (h : parse a = none ∨ parse b = none) : compareE k a b = (0, 30) := by
  unfold compareE
  rw [if_neg (by rintro ⟨h1, h2⟩; rcases hk with h | h; exact h1 h; exact h2 h)]
  rcases h with h | h
  · rw [h]
  · rw [h]
    cases parse a <;> rfl
theorem compareE_ok {k : Int} (hk : k = 1 ∨ k = 2) {a b : List UInt8} {x y : Parts} (h : parse a = some x) (h' : parse b = some y) : compareE k a b = (or2 (partsC k x y).1 (partsC k x y).2, 0) := by
  unfold compareE
  rw [if_neg (by rintro ⟨h1, h2⟩; rcases hk with h | h; exact h1 h; exact h2 h), h, h']
  rfl

theorem compare_bad (k : Int) (a b : ByteArray) (e : Int) (v1 v2 : ByteArray × ByteArray × ByteArray) (he : e = 1 ∨ e = 30) (w : World)
    (h : ∀ w, Calls Tryd.prog 30 #[.int .i64 k, .string a, .string b] w fun en w' => en = .returned (.tuple #[.agg #[.string v1.1, .string v1.2.1, .string v1.2.2], .agg #[.string v2.1, .string v2.2.1, .string v2.2.2], .int .i64 e]) ∧ Below w.heap.size w w') :
    Calls Tryd.prog 14 #[.int .i64 k, .string a, .string b] w fun en w' => en = .returned (.tuple #[.int .i64 0, .int .i64 e]) ∧ Below w.heap.size w w' := by
  have HP := Lib.hid h
  clear h
  rcases he with rfl | rfl
  all_goals
    go_enter Tryd.func14, Tryd.ntmps14
    go_wp2_with fail
    refine (HP.out _).mono ?_
    rintro e w1 ⟨rfl, hb⟩
    have HB := Lib.hid hb
    clear hb
    go_wp2
    go_ret2
    exact ⟨rfl, HB.out.trans (below_to (below2 w1 _ _) HB.out.size)⟩

set_option maxHeartbeats 1000000 in
theorem compare_ok (k : Int) (hk : k = 1 ∨ k = 2) (a b : ByteArray) (ha : a.size ≤ maxLen) (hb : b.size ≤ maxLen) {e1 v1 r1 e2 v2 r2 : ByteArray} (h : parse (bs a) = some (bs e1, bs v1, bs r1)) (h' : parse (bs b) = some (bs e2, bs v2, bs r2)) (w : World) :
    Calls Tryd.prog 14 #[.int .i64 k, .string a, .string b] w fun en w' => en = .returned (.tuple #[.int .i64 (or2 (partsC k (bs e1, bs v1, bs r1) (bs e2, bs v2, bs r2)).1 (partsC k (bs e1, bs v1, bs r1) (bs e2, bs v2, bs r2)).2), .int .i64 0]) ∧ Below w.heap.size w w' := by
  have HP := Lib.hid (both_ok k hk a b ha hb h h')
  obtain ⟨l1, l2, l3⟩ := parse_len h
  obtain ⟨l4, l5, l6⟩ := parse_len h'
  simp only [bs_length] at l1 l2 l3 l4 l5 l6
  have m : (60 : Nat) ≤ maxLen := by unfold maxLen; omega
  have HQ := Lib.hid (parts_c k e1 v1 r1 e2 v2 r2 (Nat.le_trans l1 m) (Nat.le_trans l4 m) (Nat.le_trans l2 m) (Nat.le_trans l5 m) (Nat.le_trans l3 m) (Nat.le_trans l6 m))
  clear h h' ha hb l1 l2 l3 l4 l5 l6 m hk
  generalize (partsC k (bs e1, bs v1, bs r1) (bs e2, bs v2, bs r2)).1 = c at *
  generalize (partsC k (bs e1, bs v1, bs r1) (bs e2, bs v2, bs r2)).2 = d at *
  go_enter Tryd.func14, Tryd.ntmps14
  go_wp2_with fail
  refine (HP.out _).mono ?_
  rintro e w1 ⟨rfl, hb⟩
  have HB := Lib.hid hb
  clear hb
  go_wp2_with fail
  refine (HQ.out _).mono ?_
  rintro e w2 ⟨rfl, hb⟩
  have HB2 := Lib.hid (HB.out.trans (below_to (below_tr (below2 w1 _ _) (below_to hb (by simp))) HB.out.size))
  clear hb
  go_wp2_with fail
  refine (or_c c d w2.heap.size _ (cell_two0 _ _ _ _) (cell_two1 _ _ _ _)).mono ?_
  rintro e w' ⟨rfl, rfl⟩
  go_wp2
  go_ret2
  exact ⟨rfl, HB2.out.trans (below_to (below1 _ _) HB2.out.size)⟩

/-- Compare. -/
theorem evrCompare_c (k : Int) (a b : ByteArray) (ha : a.size ≤ maxLen) (hb : b.size ≤ maxLen) (w : World) :
    Calls Tryd.prog 14 #[.int .i64 k, .string a, .string b] w fun en w' => en = .returned (.tuple #[.int .i64 (compareE k (bs a) (bs b)).1, .int .i64 (compareE k (bs a) (bs b)).2]) ∧ Below w.heap.size w w' := by
  by_cases hk : k = 1 ∨ k = 2
  · cases h : parse (bs a) with
    | none =>
      rw [compareE_none hk (.inl h)]
      exact compare_bad k a b 30 (⟨#[]⟩, ⟨#[]⟩, ⟨#[]⟩) (⟨#[]⟩, ⟨#[]⟩, ⟨#[]⟩) (.inr rfl) w (both_a k hk a b ha h)
    | some x =>
      obtain ⟨e1, v1, r1, rfl, _⟩ := parse_form h
      cases h' : parse (bs b) with
      | none =>
        rw [compareE_none hk (.inr h')]
        exact compare_bad k a b 30 (e1, v1, r1) (⟨#[]⟩, ⟨#[]⟩, ⟨#[]⟩) (.inr rfl) w (both_b k hk a b ha hb h h')
      | some y =>
        obtain ⟨e2, v2, r2, rfl, _⟩ := parse_form h'
        rw [compareE_ok hk h h']
        exact compare_ok k hk a b ha hb h h' w
  · rw [compareE_bad (fun e => hk (.inl e)) (fun e => hk (.inr e))]
    exact compare_bad k a b 1 (⟨#[]⟩, ⟨#[]⟩, ⟨#[]⟩) (⟨#[]⟩, ⟨#[]⟩, ⟨#[]⟩) (.inl rfl) w (both_bad k (fun e => hk (.inl e)) (fun e => hk (.inr e)) a b)
end Go.Proofs.YtgggbjkgpjcklaaDoor
