/-
  A dependency's form: the walk but for the last call. Helper text; the conditions are those typed.
-/
import Derived.Test.YtgeimldijagkkaaDepMem
import Derived.Test.YtgeimldijagkkaaNameC
import Derived.Test.YtgeimldijagkkaaMapAt
namespace Go.Proofs.Ytgeimldijagkkaa
set_option linter.unusedVariables false
set_option linter.unusedSimpArgs false
open Go.RowKit Go.Maps

/-- A box of a dependency. -/
structure Box5 (W : World) (b : Nat) (k : Int) (nm : ByteArray) (op : Int) (ev : ByteArray) (v : Value) : Prop where
  at_ : W.heap[b]? = some (.cells #[.int .i64 k, .string nm, .int .i64 op, .string ev, v] 85 (0, 0))
  c0 : W.cell? ⟨b, 0, none⟩ = some (.int .i64 k)
  c1 : W.cell? ⟨b, 1, none⟩ = some (.string nm)
  c2 : W.cell? ⟨b, 2, none⟩ = some (.int .i64 op)
  c3 : W.cell? ⟨b, 3, none⟩ = some (.string ev)
  c4 : W.cell? ⟨b, 4, none⟩ = some v
theorem Box5.of {W : World} {b : Nat} {k : Int} {nm : ByteArray} {op : Int} {ev : ByteArray} {v : Value} (h : W.heap[b]? = some (.cells #[.int .i64 k, .string nm, .int .i64 op, .string ev, v] 85 (0, 0))) : Box5 W b k nm op ev v :=
  ⟨h, by unfold World.cell?; simp only [h]; rfl, by unfold World.cell?; simp only [h]; rfl, by unfold World.cell?; simp only [h]; rfl, by unfold World.cell?; simp only [h]; rfl, by unfold World.cell?; simp only [h]; rfl⟩
theorem Box5.lt {W : World} {b : Nat} {k : Int} {nm : ByteArray} {op : Int} {ev : ByteArray} {v : Value} (h : Box5 W b k nm op ev v) : b < W.heap.size := World.block_lt_of_cell? W _ h.c0
theorem Box5.to {W W' : World} {b : Nat} {k : Int} {nm : ByteArray} {op : Int} {ev : ByteArray} {v : Value} (h : Box5 W b k nm op ev v) (hb : W'.heap[b]? = W.heap[b]?) : Box5 W' b k nm op ev v := .of (hb.trans h.at_)
theorem Box5.below {W W' : World} {b : Nat} {k : Int} {nm : ByteArray} {op : Int} {ev : ByteArray} {v : Value} (h : Box5 W b k nm op ev v) (hb : Below W.heap.size W W') : Box5 W' b k nm op ev v := h.to (hb.block _ h.lt)

theorem keyed3 : Keyed Try.prog 3 := int_keyed Try.underlying3
theorem key3 {k : Int} (hw : (Lit.int .i64 k).wf = true) : keyOf Try.prog 3 (.int .i64 k) = some (.int .i64 k) := keyOf_int_mk Try.underlying3 hw

def mostOf (k : Int) : Int := if k = 4 then 3 else if k = 6 then 2 else 0

open Classical in
theorem form_map (w1 : World) (k : Int) (hw : (Lit.int .i64 k).wf = true) : ∃ w2 w3 : World,
    (Instr.mapUpdate 101 (.map (some w1.heap.size)) (.int .i64 4) (.int .i64 3)).run Try.prog (w1.alloc (.map #[] 0)) = .ok () w2 ∧
    (Instr.mapUpdate 101 (.map (some w1.heap.size)) (.int .i64 6) (.int .i64 2)).run Try.prog w2 = .ok () w3 ∧
    (Instr.lookup 101 (.map (some w1.heap.size)) (.int .i64 k) false).run Try.prog w3 = .ok (.int .i64 (mostOf k)) w3 ∧ Below w1.heap.size w1 w3 := by
  obtain ⟨w2, r1, m2, g2, z2⟩ := (MapAt.made Try.prog 3 w1).run_store keyed3 Try.underlying101 (by decide) (key := .int .i64 4) (val := .int .i64 3) (key3 (by decide)) (fun u => if u = .int .i64 4 then some (.int .i64 3) else none) (by simp) (fun u hu => by simp [hu])
  obtain ⟨w3, r2, m3, g3, z3⟩ := m2.run_store keyed3 Try.underlying101 (by decide) (key := .int .i64 6) (val := .int .i64 2) (key3 (by decide)) (fun u => if u = .int .i64 6 then some (.int .i64 2) else if u = .int .i64 4 then some (.int .i64 3) else none) (by simp) (fun u hu => by simp [hu])
  have hz : (zeroValue 3).run Try.prog w3 = .ok (.int .i64 0) w3 := Try.zeroValue3 w3
  have r3 := m3.run_look keyed3 Try.underlying101 hz (key3 hw)
  refine ⟨w2, w3, r1, r2, ?_, ?_⟩
  · rw [r3]
    unfold mostOf
    by_cases h4 : k = 4
    · subst h4; simp
    · by_cases h6 : k = 6
      · subst h6; simp
      · simp [h4, h6]
  · have hB := below1 w1 (.map #[] 0)
    have hB2 := hB.grown g2 hB.size (fun j hj => by cases hj; exact Nat.le_refl _)
    exact hB2.grown g3 hB2.size (fun j hj => by cases hj; exact Nat.le_refl _)

theorem below_to {B B' : Nat} {w w' : World} (h : Below B w w') (hb : B' ≤ B) : Below B' w w' := ⟨h.os, h.tape, h.output, h.size, fun k hk => h.block k (by omega)⟩
theorem below_tr {a b c : World} (h : Below a.heap.size a b) (k : Below b.heap.size b c) : Below a.heap.size a c := h.trans (below_to k h.size)

/-- A form that is wrong, of no name. -/
def Wrong (k : Int) (nm : ByteArray) (op : Int) (ev : ByteArray) (n : Nat) : Prop :=
  k < 2 ∨ (¬ k < 2 ∧ 6 < k) ∨ (¬ k < 2 ∧ ¬ 6 < k ∧ nm.toList.isEmpty = false) ∨ (¬ k < 2 ∧ ¬ 6 < k ∧ nm.toList.isEmpty = true ∧ (op != 0) = true) ∨ (¬ k < 2 ∧ ¬ 6 < k ∧ nm.toList.isEmpty = true ∧ (op != 0) = false ∧ ev.toList.isEmpty = false) ∨
  (¬ k < 2 ∧ ¬ 6 < k ∧ nm.toList.isEmpty = true ∧ (op != 0) = false ∧ ev.toList.isEmpty = true ∧ (n : Int) < 2) ∨
  (¬ k < 2 ∧ ¬ 6 < k ∧ nm.toList.isEmpty = true ∧ (op != 0) = false ∧ ev.toList.isEmpty = true ∧ ¬ (n : Int) < 2 ∧ 0 < mostOf k ∧ mostOf k < (n : Int))

set_option maxHeartbeats 1000000 in
set_option maxRecDepth 100000 in
theorem form_bad (k : Int) (nm : ByteArray) (op : Int) (ev : ByteArray) (a : Option Addr) (n c : Nat) (w : World) (hk : (k == 1) = false) (hw : (Lit.int .i64 k).wf = true) (h : Wrong k nm op ev n) :
    Calls Try.prog 76 #[.agg #[.int .i64 k, .string nm, .int .i64 op, .string ev, .slice a n c]] w fun e w' => e = .returned (.bool false) ∧ Below w.heap.size w w' := by
  have hmm := @run_makeMap Try.prog
  obtain ⟨w1, e1⟩ : ∃ w1, w.alloc (.cells #[.int .i64 k, .string nm, .int .i64 op, .string ev, .slice a n c] 85) = w1 := ⟨_, rfl⟩
  have HB1 : Hid (Below w.heap.size w w1 ∧ Box5 w1 w.heap.size k nm op ev (.slice a n c)) := by
    rw [← e1]
    exact ⟨below1 _ _, .of (alloc_at _ _)⟩
  have p0 := HB1.out.2.c0
  have p1 := HB1.out.2.c1
  have p2 := HB1.out.2.c2
  have p3 := HB1.out.2.c3
  have p4 := HB1.out.2.c4
  obtain ⟨w2, w3, r1, r2, r3, hb3⟩ := form_map w1 k hw
  have HB3 : Hid (Below w.heap.size w w3 ∧ Box5 w3 w.heap.size k nm op ev (.slice a n c)) := ⟨below_tr HB1.out.1 hb3, HB1.out.2.below hb3⟩
  clear hb3
  have q0 := HB3.out.2.c0
  have q1 := HB3.out.2.c1
  have q2 := HB3.out.2.c2
  have q3 := HB3.out.2.c3
  have q4 := HB3.out.2.c4
  unfold Wrong at h
  generalize mostOf k = m at r3 h
  go_enter Try.func76, Try.ntmps76
  rcases h with g | ⟨g1, g⟩ | ⟨g1, g2, g⟩ | ⟨g1, g2, g3, g⟩ | ⟨g1, g2, g3, g4, g⟩ | ⟨g1, g2, g3, g4, g5, g⟩ | ⟨g1, g2, g3, g4, g5, g6, g7, g⟩
  all_goals
    go_wp2_with fail
    go_ret
    exact ⟨rfl, HB3.out.1⟩

set_option maxHeartbeats 1000000 in
set_option maxRecDepth 100000 in
theorem form_good (k : Int) (nm : ByteArray) (op : Int) (ev : ByteArray) (a : Option Addr) (n c : Nat) (w : World) (hk : (k == 1) = false) (hw : (Lit.int .i64 k).wf = true)
    (g1 : ¬ k < 2) (g2 : ¬ 6 < k) (g3 : nm.toList.isEmpty = true) (g4 : (op != 0) = false) (g5 : ev.toList.isEmpty = true) (g6 : ¬ (n : Int) < 2) (g7 : ¬ 0 < mostOf k ∨ (0 < mostOf k ∧ ¬ mostOf k < (n : Int))) (x : Bool)
    (HA : Hid (∀ (W : World) (b : Nat), Below w.heap.size w W → Box5 W b k nm op ev (.slice a n c) → Calls Try.prog 86 #[.slice a n c, .func (.func 87) #[] #[.pointer (some ⟨b, 0, none⟩)]] W fun e w' => e = .returned (.bool x) ∧ Below W.heap.size W w')) :
    Calls Try.prog 76 #[.agg #[.int .i64 k, .string nm, .int .i64 op, .string ev, .slice a n c]] w fun e w' => e = .returned (.bool (!x)) ∧ Below w.heap.size w w' := by
  have hmm := @run_makeMap Try.prog
  obtain ⟨w1, e1⟩ : ∃ w1, w.alloc (.cells #[.int .i64 k, .string nm, .int .i64 op, .string ev, .slice a n c] 85) = w1 := ⟨_, rfl⟩
  have HB1 : Hid (Below w.heap.size w w1 ∧ Box5 w1 w.heap.size k nm op ev (.slice a n c)) := by
    rw [← e1]
    exact ⟨below1 _ _, .of (alloc_at _ _)⟩
  have p0 := HB1.out.2.c0
  have p1 := HB1.out.2.c1
  have p2 := HB1.out.2.c2
  have p3 := HB1.out.2.c3
  have p4 := HB1.out.2.c4
  obtain ⟨w2, w3, r1, r2, r3, hb3⟩ := form_map w1 k hw
  have HB3 : Hid (Below w.heap.size w w3 ∧ Box5 w3 w.heap.size k nm op ev (.slice a n c)) := ⟨below_tr HB1.out.1 hb3, HB1.out.2.below hb3⟩
  clear hb3
  have q0 := HB3.out.2.c0
  have q1 := HB3.out.2.c1
  have q2 := HB3.out.2.c2
  have q3 := HB3.out.2.c3
  have q4 := HB3.out.2.c4
  generalize mostOf k = m at r3 g7
  go_enter Try.func76, Try.ntmps76
  rcases g7 with g | ⟨g7, g⟩
  all_goals
    go_wp2_with fail
    refine (HA.out w3 _ HB3.out.1 HB3.out.2).mono ?_
    rintro e w4 ⟨rfl, hb4⟩
    have hb4 := Lib.hid (below_tr HB3.out.1 hb4)
    go_wp2_with fail
    go_ret
    exact ⟨rfl, hb4.out⟩
end Go.Proofs.Ytgeimldijagkkaa
