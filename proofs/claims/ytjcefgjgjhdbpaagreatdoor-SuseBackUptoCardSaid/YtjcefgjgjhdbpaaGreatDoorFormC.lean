/-
  A dependency's form: the walk but for the last call. Helper text; the conditions are those typed.
  A dependency's form, of a name. Helper text; the conditions are those typed.
  A dependency's form: the closure, the contract whole. Helper text; the conditions are those typed.
-/
import Derived.Test.YtjcefgjgjhdbpaaGreatDoorDepMem
import Derived.Test.YtjcefgjgjhdbpaaGreatDoorNameC
import Derived.Test.YtjcefgjgjhdbpaaGreatDoorMapAt
import Derived.Test.YtjcefgjgjhdbpaaGreatDoorShelf
namespace Go.Proofs.YtjcefgjgjhdbpaaGreatDoor
set_option linter.unusedVariables false
set_option linter.unusedSimpArgs false
open Go.RowKit Go.Maps

/-- A box of a dependency. -/
structure Box5 (W : World) (b : Nat) (k : Int) (nm : ByteArray) (op : Int) (ev : ByteArray) (v : Value) : Prop where
  at_ : W.heap[b]? = some (.cells #[.int .i64 k, .string nm, .int .i64 op, .string ev, v] 73 (0, 0))
  c0 : W.cell? ⟨b, 0, none⟩ = some (.int .i64 k)
  c1 : W.cell? ⟨b, 1, none⟩ = some (.string nm)
  c2 : W.cell? ⟨b, 2, none⟩ = some (.int .i64 op)
  c3 : W.cell? ⟨b, 3, none⟩ = some (.string ev)
  c4 : W.cell? ⟨b, 4, none⟩ = some v
theorem Box5.of {W : World} {b : Nat} {k : Int} {nm : ByteArray} {op : Int} {ev : ByteArray} {v : Value} (h : W.heap[b]? = some (.cells #[.int .i64 k, .string nm, .int .i64 op, .string ev, v] 73 (0, 0))) : Box5 W b k nm op ev v :=
  ⟨h, by unfold World.cell?; simp only [h]; rfl, by unfold World.cell?; simp only [h]; rfl, by unfold World.cell?; simp only [h]; rfl, by unfold World.cell?; simp only [h]; rfl, by unfold World.cell?; simp only [h]; rfl⟩
theorem Box5.lt {W : World} {b : Nat} {k : Int} {nm : ByteArray} {op : Int} {ev : ByteArray} {v : Value} (h : Box5 W b k nm op ev v) : b < W.heap.size := World.block_lt_of_cell? W _ h.c0
theorem Box5.to {W W' : World} {b : Nat} {k : Int} {nm : ByteArray} {op : Int} {ev : ByteArray} {v : Value} (h : Box5 W b k nm op ev v) (hb : W'.heap[b]? = W.heap[b]?) : Box5 W' b k nm op ev v := .of (hb.trans h.at_)
theorem Box5.below {W W' : World} {b : Nat} {k : Int} {nm : ByteArray} {op : Int} {ev : ByteArray} {v : Value} (h : Box5 W b k nm op ev v) (hb : Below W.heap.size W W') : Box5 W' b k nm op ev v := h.to (hb.block _ h.lt)

theorem keyed3 : Keyed Tryz.prog 3 := int_keyed Tryz.underlying3
theorem key3 {k : Int} (hw : (Lit.int .i64 k).wf = true) : keyOf Tryz.prog 3 (.int .i64 k) = some (.int .i64 k) := keyOf_int_mk Tryz.underlying3 hw

def mostOf (k : Int) : Int := if k = 4 then 3 else if k = 6 then 2 else 0

open Classical in
theorem form_map (w1 : World) (k : Int) (hw : (Lit.int .i64 k).wf = true) : ∃ w2 w3 : World,
    (Instr.mapUpdate 141 (.map (some w1.heap.size)) (.int .i64 4) (.int .i64 3)).run Tryz.prog (w1.alloc (.map #[] 0)) = .ok () w2 ∧
    (Instr.mapUpdate 141 (.map (some w1.heap.size)) (.int .i64 6) (.int .i64 2)).run Tryz.prog w2 = .ok () w3 ∧
    (Instr.lookup 141 (.map (some w1.heap.size)) (.int .i64 k) false).run Tryz.prog w3 = .ok (.int .i64 (mostOf k)) w3 ∧ Below w1.heap.size w1 w3 := by
  obtain ⟨w2, r1, m2, g2, z2⟩ := (MapAt.made Tryz.prog 3 w1).run_store keyed3 Tryz.underlying141 (by decide) (key := .int .i64 4) (val := .int .i64 3) (key3 (by decide)) (fun u => if u = .int .i64 4 then some (.int .i64 3) else none) (by simp) (fun u hu => by simp [hu])
  obtain ⟨w3, r2, m3, g3, z3⟩ := m2.run_store keyed3 Tryz.underlying141 (by decide) (key := .int .i64 6) (val := .int .i64 2) (key3 (by decide)) (fun u => if u = .int .i64 6 then some (.int .i64 2) else if u = .int .i64 4 then some (.int .i64 3) else none) (by simp) (fun u hu => by simp [hu])
  have hz : (zeroValue 3).run Tryz.prog w3 = .ok (.int .i64 0) w3 := Tryz.zeroValue3 w3
  have r3 := m3.run_look keyed3 Tryz.underlying141 hz (key3 hw)
  refine ⟨w2, w3, r1, r2, ?_, ?_⟩
  · rw [r3]
    unfold mostOf
    by_cases h4 : k = 4
    · subst h4; simp
    · by_cases h6 : k = 6
      · subst h6; simp
      · simp [h4, h6]
  · have hB := below1 w1 (.map #[] 0)
    have hB2 := hB.grown g2 hB.size (fun j hj => by cases hj; exact Nat.le_refl _)
    exact hB2.grown g3 hB2.size (fun j hj => by cases hj; exact Nat.le_refl _)

theorem below_to {B B' : Nat} {w w' : World} (h : Below B w w') (hb : B' ≤ B) : Below B' w w' := ⟨h.os, h.tape, h.output, h.size, fun k hk => h.block k (by omega)⟩
theorem below_tr {a b c : World} (h : Below a.heap.size a b) (k : Below b.heap.size b c) : Below a.heap.size a c := h.trans (below_to k h.size)

/-- A form that is wrong, of no name. -/
def Wrong (k : Int) (nm : ByteArray) (op : Int) (ev : ByteArray) (n : Nat) : Prop :=
  k < 2 ∨ (¬ k < 2 ∧ 6 < k) ∨ (¬ k < 2 ∧ ¬ 6 < k ∧ nm.toList.isEmpty = false) ∨ (¬ k < 2 ∧ ¬ 6 < k ∧ nm.toList.isEmpty = true ∧ (op != 0) = true) ∨ (¬ k < 2 ∧ ¬ 6 < k ∧ nm.toList.isEmpty = true ∧ (op != 0) = false ∧ ev.toList.isEmpty = false) ∨
  (¬ k < 2 ∧ ¬ 6 < k ∧ nm.toList.isEmpty = true ∧ (op != 0) = false ∧ ev.toList.isEmpty = true ∧ (n : Int) < 2) ∨
  (¬ k < 2 ∧ ¬ 6 < k ∧ nm.toList.isEmpty = true ∧ (op != 0) = false ∧ ev.toList.isEmpty = true ∧ ¬ (n : Int) < 2 ∧ 0 < mostOf k ∧ mostOf k < (n : Int))

set_option maxHeartbeats 1000000 in
set_option maxRecDepth 100000 in
theorem form_bad (k : Int) (nm : ByteArray) (op : Int) (ev : ByteArray) (a : Option Addr) (n c : Nat) (w : World) (hk : (k == 1) = false) (hw : (Lit.int .i64 k).wf = true) (h : Wrong k nm op ev n) :
    Calls Tryz.prog 108 #[.agg #[.int .i64 k, .string nm, .int .i64 op, .string ev, .slice a n c]] w fun e w' => e = .returned (.bool false) ∧ Below w.heap.size w w' := by
  have hmm := @run_makeMap Tryz.prog
  obtain ⟨w1, e1⟩ : ∃ w1, w.alloc (.cells #[.int .i64 k, .string nm, .int .i64 op, .string ev, .slice a n c] 73) = w1 := ⟨_, rfl⟩
  have HB1 : Hid (Below w.heap.size w w1 ∧ Box5 w1 w.heap.size k nm op ev (.slice a n c)) := by
    rw [← e1]
    exact ⟨below1 _ _, .of (alloc_at _ _)⟩
  have p0 := HB1.out.2.c0
  have p1 := HB1.out.2.c1
  have p2 := HB1.out.2.c2
  have p3 := HB1.out.2.c3
  have p4 := HB1.out.2.c4
  obtain ⟨w2, w3, r1, r2, r3, hb3⟩ := form_map w1 k hw
  have HB3 : Hid (Below w.heap.size w w3 ∧ Box5 w3 w.heap.size k nm op ev (.slice a n c)) := ⟨below_tr HB1.out.1 hb3, HB1.out.2.below hb3⟩
  clear hb3
  have q0 := HB3.out.2.c0
  have q1 := HB3.out.2.c1
  have q2 := HB3.out.2.c2
  have q3 := HB3.out.2.c3
  have q4 := HB3.out.2.c4
  unfold Wrong at h
  generalize mostOf k = m at r3 h
  go_enter Tryz.func108, Tryz.ntmps108
  rcases h with g | ⟨g1, g⟩ | ⟨g1, g2, g⟩ | ⟨g1, g2, g3, g⟩ | ⟨g1, g2, g3, g4, g⟩ | ⟨g1, g2, g3, g4, g5, g⟩ | ⟨g1, g2, g3, g4, g5, g6, g7, g⟩
  all_goals
    go_wp2_with fail
    go_ret
    exact ⟨rfl, HB3.out.1⟩

set_option maxHeartbeats 1000000 in
set_option maxRecDepth 100000 in
theorem form_good (k : Int) (nm : ByteArray) (op : Int) (ev : ByteArray) (a : Option Addr) (n c : Nat) (w : World) (hk : (k == 1) = false) (hw : (Lit.int .i64 k).wf = true)
    (g1 : ¬ k < 2) (g2 : ¬ 6 < k) (g3 : nm.toList.isEmpty = true) (g4 : (op != 0) = false) (g5 : ev.toList.isEmpty = true) (g6 : ¬ (n : Int) < 2) (g7 : ¬ 0 < mostOf k ∨ (0 < mostOf k ∧ ¬ mostOf k < (n : Int))) (x : Bool)
    (HA : Hid (∀ (W : World) (b : Nat), Below w.heap.size w W → Box5 W b k nm op ev (.slice a n c) → Calls Tryz.prog 133 #[.slice a n c, .func (.func 134) #[] #[.pointer (some ⟨b, 0, none⟩)]] W fun e w' => e = .returned (.bool x) ∧ Below W.heap.size W w')) :
    Calls Tryz.prog 108 #[.agg #[.int .i64 k, .string nm, .int .i64 op, .string ev, .slice a n c]] w fun e w' => e = .returned (.bool (!x)) ∧ Below w.heap.size w w' := by
  have hmm := @run_makeMap Tryz.prog
  obtain ⟨w1, e1⟩ : ∃ w1, w.alloc (.cells #[.int .i64 k, .string nm, .int .i64 op, .string ev, .slice a n c] 73) = w1 := ⟨_, rfl⟩
  have HB1 : Hid (Below w.heap.size w w1 ∧ Box5 w1 w.heap.size k nm op ev (.slice a n c)) := by
    rw [← e1]
    exact ⟨below1 _ _, .of (alloc_at _ _)⟩
  have p0 := HB1.out.2.c0
  have p1 := HB1.out.2.c1
  have p2 := HB1.out.2.c2
  have p3 := HB1.out.2.c3
  have p4 := HB1.out.2.c4
  obtain ⟨w2, w3, r1, r2, r3, hb3⟩ := form_map w1 k hw
  have HB3 : Hid (Below w.heap.size w w3 ∧ Box5 w3 w.heap.size k nm op ev (.slice a n c)) := ⟨below_tr HB1.out.1 hb3, HB1.out.2.below hb3⟩
  clear hb3
  have q0 := HB3.out.2.c0
  have q1 := HB3.out.2.c1
  have q2 := HB3.out.2.c2
  have q3 := HB3.out.2.c3
  have q4 := HB3.out.2.c4
  generalize mostOf k = m at r3 g7
  go_enter Tryz.func108, Tryz.ntmps108
  rcases g7 with g | ⟨g7, g⟩
  all_goals
    go_wp2_with fail
    refine (HA.out w3 _ HB3.out.1 HB3.out.2).mono ?_
    rintro e w4 ⟨rfl, hb4⟩
    have hb4 := Lib.hid (below_tr HB3.out.1 hb4)
    go_wp2_with fail
    go_ret
    exact ⟨rfl, hb4.out⟩
end Go.Proofs.YtjcefgjgjhdbpaaGreatDoor
namespace Go.Proofs.YtjcefgjgjhdbpaaGreatDoor
set_option linter.unusedVariables false
set_option linter.unusedSimpArgs false
open Go.RowKit Go.Maps

theorem evrV_ex (x : Option Parts) : ∃ a b c : ByteArray, evrV x = .agg #[.string a, .string b, .string c] := by
  cases x <;> exact ⟨_, _, _, rfl⟩

set_option maxHeartbeats 1000000 in
set_option maxRecDepth 100000 in
theorem form_name (nm : ByteArray) (op : Int) (ev : ByteArray) (hev : ev.size ≤ maxLen) (a : Option Addr) (n c : Nat) (w : World) (B : Bool) (hB : nameB nm = B) (q : Int) (hq : errOf (parse (bs ev)) = q) (res : Bool)
    (h : (B = false ∧ res = false) ∨ (B = true ∧ ((n : Int) == 0) = false ∧ res = false) ∨ (B = true ∧ ((n : Int) == 0) = true ∧ (op == 0) = true ∧ ev.toList.isEmpty = true ∧ res = true) ∨
      (B = true ∧ ((n : Int) == 0) = true ∧ (op == 0) = true ∧ ev.toList.isEmpty = false ∧ op < 1 ∧ res = false) ∨
      (B = true ∧ ((n : Int) == 0) = true ∧ (op == 0) = false ∧ op < 1 ∧ res = false) ∨ (B = true ∧ ((n : Int) == 0) = true ∧ (op == 0) = false ∧ ¬ op < 1 ∧ 7 < op ∧ res = false) ∨
      (B = true ∧ ((n : Int) == 0) = true ∧ (op == 0) = false ∧ ¬ op < 1 ∧ ¬ 7 < op ∧ (q == 0) = res)) :
    Calls Tryz.prog 108 #[.agg #[.int .i64 1, .string nm, .int .i64 op, .string ev, .slice a n c]] w fun e w' => e = .returned (.bool res) ∧ Below w.heap.size w w' := by
  have HN := name_c nm
  rw [hB] at HN
  replace HN := Lib.hid HN
  have HP := parse_c ev hev
  unfold ParseRes at HP
  obtain ⟨x, y, z, hv⟩ := evrV_ex (parse (bs ev))
  rw [hv, hq] at HP
  replace HP := Lib.hid HP
  clear hv hq hB hev
  obtain ⟨w1, e1⟩ : ∃ w1, w.alloc (.cells #[.int .i64 1, .string nm, .int .i64 op, .string ev, .slice a n c] 73) = w1 := ⟨_, rfl⟩
  have HB1 : Hid (Below w.heap.size w w1 ∧ Box5 w1 w.heap.size 1 nm op ev (.slice a n c)) := by
    rw [← e1]
    exact ⟨below1 _ _, .of (alloc_at _ _)⟩
  have p0 := HB1.out.2.c0
  have p1 := HB1.out.2.c1
  have p2 := HB1.out.2.c2
  have p3 := HB1.out.2.c3
  have p4 := HB1.out.2.c4
  go_enter Tryz.func108, Tryz.ntmps108
  go_wp2_with fail
  refine (HP.out w1).mono ?_
  rintro e w2 ⟨rfl, hb2⟩
  clear HP p0 p1 p2 p3 p4
  obtain ⟨w3, e3⟩ : ∃ w3, w2.alloc (.cells #[.string x, .string y, .string z] 97) = w3 := ⟨_, rfl⟩
  have HB3 : Hid (Below w.heap.size w w3 ∧ Box5 w3 w.heap.size 1 nm op ev (.slice a n c)) := by
    have h2 : Below w1.heap.size w1 w3 := below_tr hb2 (by rw [← e3]; exact below1 _ _)
    exact ⟨below_tr HB1.out.1 h2, HB1.out.2.below h2⟩
  clear hb2
  have p0 := HB3.out.2.c0
  have p1 := HB3.out.2.c1
  have p2 := HB3.out.2.c2
  have p3 := HB3.out.2.c3
  have p4 := HB3.out.2.c4
  go_wp2_with fail
  refine (HN.out w3).mono ?_
  rintro e w4 ⟨rfl, hb4⟩
  clear HN p0 p1 p2 p3 p4
  have HB4 : Hid (Below w.heap.size w w4 ∧ Box5 w4 w.heap.size 1 nm op ev (.slice a n c)) := ⟨below_tr HB3.out.1 hb4, HB3.out.2.below hb4⟩
  clear hb4 HB3 HB1 e1 e3
  have p0 := HB4.out.2.c0
  have p1 := HB4.out.2.c1
  have p2 := HB4.out.2.c2
  have p3 := HB4.out.2.c3
  have p4 := HB4.out.2.c4
  rcases h with ⟨rfl, rfl⟩ | ⟨rfl, g1, rfl⟩ | ⟨rfl, g1, g2, g3, rfl⟩ | ⟨rfl, g1, g2, g3, g4, rfl⟩ | ⟨rfl, g1, g2, g3, rfl⟩ | ⟨rfl, g1, g2, g3, g4, rfl⟩ | ⟨rfl, g1, g2, g3, g4, g5⟩
  all_goals
    go_wp2_with fail
    go_ret
    exact ⟨rfl, HB4.out.1⟩
end Go.Proofs.YtjcefgjgjhdbpaaGreatDoor
namespace Go.Proofs.YtjcefgjgjhdbpaaGreatDoor
set_option linter.unusedVariables false
set_option linter.unusedSimpArgs false
open Go.RowKit Go.Maps

def plainK (k : Int) : Bool := k == 1 || k == 5 || k == 6

set_option maxHeartbeats 1000000 in
theorem close_c (k : Int) (nm : ByteArray) (op : Int) (ev : ByteArray) (v : Value) (b : Nat) (k' : Int) (nm' : ByteArray) (op' : Int) (ev' : ByteArray) (v' : Value) (W : World) (hB : Box5 W b k nm op ev v) (fa : Bool)
    (HF : Hid (∀ w, Below W.heap.size W w → Calls Tryz.prog 108 #[.agg #[.int .i64 k', .string nm', .int .i64 op', .string ev', v']] w fun e w' => e = .returned (.bool fa) ∧ Below w.heap.size w w')) (res : Bool) (hres : (!((decide (k < 5) || plainK k') && fa)) = res) :
    Calls Tryz.prog 134 #[.agg #[.int .i64 k', .string nm', .int .i64 op', .string ev', v'], .pointer (some ⟨b, 0, none⟩)] W fun e w' => e = .returned (.bool res) ∧ Below W.heap.size W w' := by
  obtain ⟨w1, e1⟩ : ∃ w1, W.alloc (.cells #[.int .i64 k', .string nm', .int .i64 op', .string ev', v'] 73) = w1 := ⟨_, rfl⟩
  have HB1 : Hid (Below W.heap.size W w1 ∧ Box5 w1 W.heap.size k' nm' op' ev' v' ∧ Box5 w1 b k nm op ev v) := by
    rw [← e1]
    exact ⟨below1 _ _, .of (alloc_at _ _), hB.below (below1 _ _)⟩
  clear hB
  have p0 := HB1.out.2.1.c0
  have p1 := HB1.out.2.1.c1
  have p2 := HB1.out.2.1.c2
  have p3 := HB1.out.2.1.c3
  have p4 := HB1.out.2.1.c4
  have q0 := HB1.out.2.2.c0
  have H : ((¬ 5 ≤ k ∧ ((k' == 1) = true ∨ (k' == 1) = false ∧ (k' == 5) = true ∨ (k' == 1) = false ∧ (k' == 5) = false ∧ (k' == 6) = true ∨ (k' == 1) = false ∧ (k' == 5) = false ∧ (k' == 6) = false) ∨
      5 ≤ k ∧ ((k' == 1) = true ∨ (k' == 1) = false ∧ (k' == 5) = true ∨ (k' == 1) = false ∧ (k' == 5) = false ∧ (k' == 6) = true)) ∧ Hid ((!fa) = res)) ∨ (5 ≤ k ∧ (k' == 1) = false ∧ (k' == 5) = false ∧ (k' == 6) = false ∧ Hid (true = res)) := by
    unfold plainK at hres
    unfold Hid
    by_cases h5 : k < 5
    · have h5' : ¬ 5 ≤ k := by omega
      cases h1 : (k' == 1) <;> cases h2 : (k' == 5) <;> cases h3 : (k' == 6) <;> simp [h5, h5', h1, h2, h3] at hres ⊢ <;> exact hres
    · have h5' : 5 ≤ k := by omega
      cases h1 : (k' == 1) <;> cases h2 : (k' == 5) <;> cases h3 : (k' == 6) <;> simp [h5, h5', h1, h2, h3] at hres ⊢ <;> exact hres
  clear hres
  go_enter Tryz.func134, Tryz.ntmps134
  rcases H with ⟨⟨h5, h | ⟨h1, h⟩ | ⟨h1, h2, h⟩ | ⟨h1, h2, h⟩⟩ | ⟨h5, h | ⟨h1, h⟩ | ⟨h1, h2, h⟩⟩, HR⟩ | ⟨h5, h1, h2, h, HR⟩
  case inr =>
    go_wp2_with fail
    go_ret
    exact ⟨by rw [← HR.out]; rfl, HB1.out.1⟩
  all_goals
    go_wp2_with fail
    refine (HF.out w1 HB1.out.1).mono ?_
    rintro e w2 ⟨rfl, hb2⟩
    go_wp2_with fail
    go_ret
    exact ⟨by rw [← HR.out]; rfl, below_tr HB1.out.1 hb2⟩

theorem DepC.below {w w' : World} {S : Nat → Prop} {d : DepT} {cs : List Value} (h : DepC w S d cs) (hb : Below w.heap.size w w') : DepC w' S d cs :=
  h.keep (fun _ h => h) (fun b _ hl => hb.block b hl) (fun _ _ => trivial)
theorem DepsV.below {w w' : World} {S : Nat → Prop} {n : Nat} {args : Fin n → DepT} {v : Value} (h : DepsV w S n args v) (hb : Below w.heap.size w w') : DepsV w' S n args v :=
  h.keep (fun _ h => h) (fun b _ hl => hb.block b hl)
theorem CellsAt.lt {w : World} {b o : Nat} {c : Value} {cs : List Value} (h : CellsAt w b o (c :: cs)) : b < w.heap.size := World.block_lt_of_cell? w _ (h 0 c rfl)

theorem wrong_form {k : Int} {nm : ByteArray} {op : Int} {ev : ByteArray} {n : Nat} {args : Fin n → DepT} (hk : k ≠ 1) :
    (Wrong k nm op ev n ∧ formB (.mk k nm op ev n args) = false) ∨
    (¬ k < 2 ∧ ¬ 6 < k ∧ nm.toList.isEmpty = true ∧ (op != 0) = false ∧ ev.toList.isEmpty = true ∧ ¬ (n : Int) < 2 ∧ (¬ 0 < mostOf k ∨ (0 < mostOf k ∧ ¬ mostOf k < (n : Int))) ∧
      formB (.mk k nm op ev n args) = (List.finRange n).all fun i => (decide (k < 5) || plainK (args i).kind) && formB (args i)) := by
  have e1 : ∀ s : ByteArray, s.size ≠ 0 → s.toList.isEmpty = false := fun s h => bs_nonempty (Nat.pos_of_ne_zero h)
  have e2 : ∀ s : ByteArray, s.size = 0 → s.toList.isEmpty = true := fun s h => by rw [bs_toList, bs_nil.2 h]; rfl
  have hf : formB (.mk k nm op ev n args) = if k < 2 ∨ 6 < k ∨ nm.size ≠ 0 ∨ op ≠ 0 ∨ ev.size ≠ 0 ∨ n < 2 ∨ (k = 4 ∧ 3 < n) ∨ (k = 6 ∧ 2 < n) then false
      else (List.finRange n).all fun i => (decide (k < 5) || decide ((args i).kind = 1) || decide ((args i).kind = 5) || decide ((args i).kind = 6)) && formB (args i) := by
    conv => lhs; unfold formB
    rw [if_neg hk]
  rw [hf]
  unfold Wrong
  by_cases c1 : k < 2
  · exact .inl ⟨.inl c1, by rw [if_pos (.inl c1)]⟩
  by_cases c2 : 6 < k
  · exact .inl ⟨.inr (.inl ⟨c1, c2⟩), by rw [if_pos (.inr (.inl c2))]⟩
  by_cases c3 : nm.size ≠ 0
  · exact .inl ⟨.inr (.inr (.inl ⟨c1, c2, e1 _ c3⟩)), by rw [if_pos (.inr (.inr (.inl c3)))]⟩
  have c3' := e2 nm (by omega)
  by_cases c4 : op ≠ 0
  · exact .inl ⟨.inr (.inr (.inr (.inl ⟨c1, c2, c3', by simpa using c4⟩))), by rw [if_pos (.inr (.inr (.inr (.inl c4))))]⟩
  have c4' : (op != 0) = false := by simpa using c4
  by_cases c5 : ev.size ≠ 0
  · exact .inl ⟨.inr (.inr (.inr (.inr (.inl ⟨c1, c2, c3', c4', e1 _ c5⟩)))), by rw [if_pos (.inr (.inr (.inr (.inr (.inl c5)))))]⟩
  have c5' := e2 ev (by omega)
  by_cases c6 : n < 2
  · exact .inl ⟨.inr (.inr (.inr (.inr (.inr (.inl ⟨c1, c2, c3', c4', c5', by omega⟩))))), by rw [if_pos (.inr (.inr (.inr (.inr (.inr (.inl c6))))))]⟩
  have c6' : ¬ (n : Int) < 2 := by omega
  by_cases c7 : (k = 4 ∧ 3 < n) ∨ (k = 6 ∧ 2 < n)
  · refine .inl ⟨.inr (.inr (.inr (.inr (.inr (.inr ⟨c1, c2, c3', c4', c5', c6', ?_⟩))))), by rw [if_pos (.inr (.inr (.inr (.inr (.inr (.inr c7))))))]⟩
    unfold mostOf
    rcases c7 with ⟨rfl, h⟩ | ⟨rfl, h⟩
    · simp; omega
    · simp; omega
  · refine .inr ⟨c1, c2, c3', c4', c5', c6', ?_, ?_⟩
    · unfold mostOf
      by_cases h4 : k = 4
      · subst h4
        simp
        omega
      · by_cases h6 : k = 6
        · subst h6
          simp
          omega
        · simp [h4, h6]
    · rw [if_neg (by
        rintro (h | h | h | h | h | h | h)
        · exact c1 h
        · exact c2 h
        · exact c3 h
        · exact c4 h
        · exact c5 h
        · exact c6 h
        · exact c7 h)]
      congr 1
      funext i
      unfold plainK
      congr 1
      rw [Bool.eq_iff_iff]
      simp [or_assoc]

theorem name_form {nm : ByteArray} {op : Int} {ev : ByteArray} {n : Nat} {args : Fin n → DepT} {B : Bool} (hB : nameB nm = B) {q : Int} (hq : errOf (parse (bs ev)) = q) {res : Bool} (hr : formB (.mk 1 nm op ev n args) = res) :
    (B = false ∧ res = false) ∨ (B = true ∧ ((n : Int) == 0) = false ∧ res = false) ∨ (B = true ∧ ((n : Int) == 0) = true ∧ (op == 0) = true ∧ ev.toList.isEmpty = true ∧ res = true) ∨
      (B = true ∧ ((n : Int) == 0) = true ∧ (op == 0) = true ∧ ev.toList.isEmpty = false ∧ op < 1 ∧ res = false) ∨
      (B = true ∧ ((n : Int) == 0) = true ∧ (op == 0) = false ∧ op < 1 ∧ res = false) ∨ (B = true ∧ ((n : Int) == 0) = true ∧ (op == 0) = false ∧ ¬ op < 1 ∧ 7 < op ∧ res = false) ∨
      (B = true ∧ ((n : Int) == 0) = true ∧ (op == 0) = false ∧ ¬ op < 1 ∧ ¬ 7 < op ∧ (q == 0) = res) := by
  have e1 : ∀ s : ByteArray, s.size ≠ 0 → s.toList.isEmpty = false := fun s h => bs_nonempty (Nat.pos_of_ne_zero h)
  have e2 : ∀ s : ByteArray, s.size = 0 → s.toList.isEmpty = true := fun s h => by rw [bs_toList, bs_nil.2 h]; rfl
  have hf : formB (.mk 1 nm op ev n args) = (nameB nm && decide (n = 0) && ((decide (op = 0) && decide (ev.size = 0)) || (decide (1 ≤ op) && decide (op ≤ 7) && (parse (bs ev)).isSome))) := by
    conv => lhs; unfold formB
    rw [if_pos rfl]
  rw [hf, hB] at hr
  cases B with
  | false => left; exact ⟨rfl, by rw [← hr]; rfl⟩
  | true =>
    right
    by_cases hn : n = 0
    · have hn' : ((n : Int) == 0) = true := by rw [hn]; rfl
      right
      by_cases ho : op = 0
      · have ho' : (op == 0) = true := by rw [ho]; rfl
        by_cases hv : ev.size = 0
        · left
          exact ⟨rfl, hn', ho', e2 _ hv, by rw [← hr]; simp [hn, ho, hv]⟩
        · right; left
          exact ⟨rfl, hn', ho', e1 _ hv, by omega, by rw [← hr]; simp [hn, ho, hv]⟩
      · have ho' : (op == 0) = false := by simpa using ho
        right; right
        by_cases h1 : op < 1
        · left
          exact ⟨rfl, hn', ho', h1, by rw [← hr]; simp [hn, ho]; intros; omega⟩
        · right
          by_cases h7 : 7 < op
          · left
            exact ⟨rfl, hn', ho', h1, h7, by rw [← hr]; simp [hn, ho]; intros; omega⟩
          · right
            refine ⟨rfl, hn', ho', h1, h7, ?_⟩
            rw [← hr, ← hq]
            have a1 : 1 ≤ op := by omega
            have a2 : op ≤ 7 := by omega
            simp only [hn, ho, a1, a2, decide_true, decide_false, Bool.true_and, Bool.false_and, Bool.false_or]
            cases parse (bs ev) <;> rfl
    · left
      exact ⟨rfl, by simpa using hn, by rw [← hr]; simp [hn]⟩

theorem any_form {n : Nat} (f : Fin n → Bool) : (!(((List.finRange n).take n).any fun i => !f i)) = (List.finRange n).all f := by
  have : (List.finRange n).take n = List.finRange n := List.take_of_length_le (by simp)
  rw [this, List.not_any_eq_all_not]
  simp

theorem enters87 : ∀ args w, (callFunc 134 args).run Tryz.prog w = .ok (.enter 134 args) w := fun args w => by kernel_rfl

theorem cell_tr {W W' : World} (h : Below W.heap.size W W') {b o : Nat} {v : Value} (hc : W.cell? ⟨b, o, none⟩ = some v) : W'.cell? ⟨b, o, none⟩ = some v :=
  (h.cell (p := ⟨b, o, none⟩) (World.block_lt_of_cell? W _ hc)).trans hc

set_option maxRecDepth 100000 in
/-- dep.form. -/
theorem form_c : ∀ (d : DepT) (cs : List Value) (S : Nat → Prop) (w : World), DepC w S d cs → Calls Tryz.prog 108 #[.agg cs.toArray] w fun e w' => e = .returned (.bool (formB d)) ∧ Below w.heap.size w w' := by
  intro d
  induction d with
  | mk k nm op ev n args ih =>
    intro cs S w h
    obtain ⟨a, c, rfl, hw, hnm, hev, hn, hin⟩ := h
    by_cases hk : k = 1
    · subst hk
      exact form_name nm op ev hev a n c w _ rfl _ rfl _ (name_form rfl rfl rfl)
    · have hk' : (k == 1) = false := by simpa using hk
      rcases wrong_form (nm := nm) (op := op) (ev := ev) (args := args) hk with ⟨h1, h2⟩ | ⟨g1, g2, g3, g4, g5, g6, g7, h2⟩
      · rw [h2]
        exact form_bad k nm op ev a n c w hk' hw h1
      · rw [h2, ← any_form]
        refine form_good k nm op ev a n c w hk' hw g1 g2 g3 g4 g5 g6 g7 _ (Lib.hid ?_)
        intro W b hbW hbox
        have hn0 : n ≠ 0 := by omega
        obtain ⟨b', off, rfl, hs, hi⟩ := hin hn0
        let _ : Inhabited (Fin n) := ⟨⟨0, Nat.pos_of_ne_zero hn0⟩⟩
        have hch : ∀ i : Fin n, DepC w S (args i) (Classical.choose (hi i)) ∧ CellsAt w b' (off + i * 5) (Classical.choose (hi i)) := fun i => Classical.choose_spec (hi i)
        obtain ⟨enc, henc⟩ : ∃ enc : Fin n → List Value, ∀ i, DepC w S (args i) (enc i) ∧ CellsAt w b' (off + i * 5) (enc i) := ⟨_, hch⟩
        clear hch hi hin
        have hlen : ∀ i, (enc i).length = 5 := fun i => (henc i).1.len
        have hbW' : b' < W.heap.size := by
          obtain ⟨h1, h2⟩ := henc ⟨0, Nat.pos_of_ne_zero hn0⟩
          have hl := h1.len
          have hlt : b' < w.heap.size := by
            cases hc : enc ⟨0, Nat.pos_of_ne_zero hn0⟩ with
            | nil => rw [hc] at hl; cases hl
            | cons x l => rw [hc] at h2; exact h2.lt
          exact Nat.lt_of_lt_of_le hlt hbW.size
        have hp : PredBelow Tryz.prog 134 #[.pointer (some ⟨b, 0, none⟩)] (fun i => .agg (enc i).toArray) (fun i => !((decide (k < 5) || plainK (args i).kind) && formB (args i))) W := by
          intro W2 i hb2
          have hd : DepC W2 S (args i) (enc i) := ((henc i).1.below hbW).below hb2
          have hih := ih i
          show Calls Tryz.prog 134 #[.agg (enc i).toArray, .pointer (some ⟨b, 0, none⟩)] W2 fun e w' => e = .returned (.bool (!((decide (k < 5) || plainK (args i).kind) && formB (args i)))) ∧ Below W.heap.size W w'
          generalize args i = d at hd hih ⊢
          generalize enc i = cs at hd ⊢
          cases d with
          | mk k' nm' op' ev' n' args' =>
            have hd' := hd
            obtain ⟨a', c', rfl, _⟩ := hd'
            show Calls Tryz.prog 134 #[.agg #[.int .i64 k', .string nm', .int .i64 op', .string ev', .slice a' n' c'], .pointer (some ⟨b, 0, none⟩)] W2 fun e w' => e = .returned (.bool (!((decide (k < 5) || plainK k') && formB (.mk k' nm' op' ev' n' args')))) ∧ Below W.heap.size W w'
            refine (close_c k nm op ev _ b k' nm' op' ev' _ W2 (hbox.below hb2) (formB (.mk k' nm' op' ev' n' args')) (Lib.hid ?_) _ rfl).mono fun e w' ⟨h1, h2⟩ => ⟨h1, hb2.trans (below_to h2 hb2.size)⟩
            intro w3 hb3
            exact hih _ S w3 (hd.below hb3)
        have hc : ∀ j, j < (List.finRange n).length → ∀ i v, (enc (List.finRange n)[j]!)[i]? = some v → W.cell? ⟨b', off + j * 5 + i, none⟩ = some v := by
          intro j hj i v hv
          have hjn : j < n := by simpa using hj
          have e : (List.finRange n)[j]! = ⟨j, hjn⟩ := by
            have : (List.finRange n)[j]? = some ⟨j, hjn⟩ := by simp [List.getElem?_eq_getElem hj]
            exact List.getElem!_of_getElem? this
          rw [e] at hv
          exact cell_tr hbW ((henc ⟨j, hjn⟩).2 i v hv)
        exact AnyQ.slices_ContainsFunc Tryz.layAnyD 5 Tryz.isAgg73 Tryz.sizeOf73 enc hlen _ 134 #[.pointer (some ⟨b, 0, none⟩)] enters87 b' off n c (List.finRange n) W hp (by simp) (by omega) hbW' hc
end Go.Proofs.YtjcefgjgjhdbpaaGreatDoor
