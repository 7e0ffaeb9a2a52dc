/-
  A package in memory; its lists' places. Helper text; the conditions are those typed.
  A package's dependencies may be: what is asked. Helper text; the conditions are those typed.
  A package's dependencies may be: the walk. Helper text; the conditions are those typed.
  A package's dependencies may be, by the document's answer: the walk. Helper text; the conditions are those typed.
-/
import Derived.Test.YtjcefgjgjhdbpaaGreatDoorRDepC
import Derived.BigRegion
namespace Go.Proofs.YtjcefgjgjhdbpaaGreatDoor
set_option linter.unusedVariables false
set_option linter.unusedSimpArgs false
open Go.RowKit Go.Maps

def DepT.op : DepT → Int
  | .mk _ _ op _ _ _ => op
/-- A package. -/
structure PkgT where
  name : ByteArray
  evr : ByteArray
  arch : ByteArray
  vendor : ByteArray
  n : Fin 7 → Nat
  deps : (i : Fin 7) → Fin (n i) → DepT
  files : List ByteArray
/-- may a dependency of the i-th list be? -/
def depOk (i : Nat) (d : DepT) : Bool := ((decide (i ≠ 0) && decide (i ≠ 4)) || decide (d.kind = 1)) && decide (depCheck d = 0) && !(decide (i = 0) && decide (d.op ≠ 0) && decide (d.op ≠ 2))
/-- may a package's dependencies be? -/
def depsB (p : PkgT) : Bool := (List.finRange 7).all fun i => decide (p.n i ≤ 16) && (List.finRange (p.n i)).all fun j => depOk i (p.deps i j)

/-- The slice value reads as these texts. -/
def StrsV (w : World) (S : Nat → Prop) (l : List ByteArray) (v : Value) : Prop := ∃ a c, v = .slice a l.length c ∧ (∀ s ∈ l, s.size ≤ maxLen) ∧ l.length * 16 ≤ 140737488355328 ∧
  (l ≠ [] → ∃ b off, a = some ⟨b, off, none⟩ ∧ S b ∧ ∀ i (h : i < l.length), w.cell? ⟨b, off + i, none⟩ = some (.string l[i]))
theorem StrsV.keep {w w' : World} {S S' : Nat → Prop} (hS : ∀ b, S b → S' b) (hk : ∀ b, S b → b < w.heap.size → w'.heap[b]? = w.heap[b]?) {l : List ByteArray} {v : Value} (h : StrsV w S l v) : StrsV w' S' l v := by
  obtain ⟨a, c, e, hs, hn, h⟩ := h
  refine ⟨a, c, e, hs, hn, fun hl => ?_⟩
  obtain ⟨b, off, ea, hb, hc⟩ := h hl
  refine ⟨b, off, ea, hS b hb, fun i hi => ?_⟩
  have h0 := hc i hi
  have := hk b hb (World.block_lt_of_cell? w _ h0)
  unfold World.cell? at *
  simp only [this]
  exact h0
theorem StrsV.below {w w' : World} {S : Nat → Prop} {l : List ByteArray} {v : Value} (h : StrsV w S l v) (hb : Below w.heap.size w w') : StrsV w' S l v :=
  h.keep (fun _ h => h) (fun b _ hl => hb.block b hl)

/-- The cells of a package. -/
def pkgCells (nm ev ar ve : ByteArray) (v : Fin 7 → Value) (vf : Value) : List Value := [.string nm, .string ev, .string ar, .string ve, v 0, v 1, v 2, v 3, v 4, v 5, v 6, vf]
structure PkgV (w : World) (S : Nat → Prop) (p : PkgT) (v : Fin 7 → Value) (vf : Value) : Prop where
  name : p.name.size ≤ maxLen
  evr : p.evr.size ≤ maxLen
  arch : p.arch.size ≤ maxLen
  vendor : p.vendor.size ≤ maxLen
  deps : ∀ i, DepsV w S (p.n i) (p.deps i) (v i)
  files : StrsV w S p.files vf
theorem PkgV.keep {w w' : World} {S S' : Nat → Prop} (hS : ∀ b, S b → S' b) (hk : ∀ b, S b → b < w.heap.size → w'.heap[b]? = w.heap[b]?) {p : PkgT} {v : Fin 7 → Value} {vf : Value} (h : PkgV w S p v vf) : PkgV w' S' p v vf :=
  ⟨h.name, h.evr, h.arch, h.vendor, fun i => (h.deps i).keep hS hk, h.files.keep hS hk⟩
theorem PkgV.below {w w' : World} {S : Nat → Prop} {p : PkgT} {v : Fin 7 → Value} {vf : Value} (h : PkgV w S p v vf) (hb : Below w.heap.size w w') : PkgV w' S p v vf :=
  h.keep (fun _ h => h) (fun b _ hl => hb.block b hl)

/-- A block of cells. -/
def BoxN (W : World) (b : Nat) (cs : List Value) (ty : TypeId) : Prop := W.heap[b]? = some (.cells cs.toArray ty (0, 0))
theorem BoxN.cell {W : World} {b : Nat} {cs : List Value} {ty : TypeId} (h : BoxN W b cs ty) {j : Nat} {v : Value} (hv : cs[j]? = some v) : W.cell? ⟨b, j, none⟩ = some v := by
  unfold BoxN at h
  unfold World.cell?
  simp [h, hv]
theorem BoxN.lt {W : World} {b : Nat} {cs : List Value} {ty : TypeId} (h : BoxN W b cs ty) : b < W.heap.size := by
  rcases Nat.lt_or_ge b W.heap.size with h' | h'
  · exact h'
  · unfold BoxN at h
    rw [Array.getElem?_eq_none h'] at h; cases h
theorem BoxN.to {W W' : World} {b : Nat} {cs : List Value} {ty : TypeId} (h : BoxN W b cs ty) (hb : W'.heap[b]? = W.heap[b]?) : BoxN W' b cs ty := hb.trans h
theorem BoxN.below {W W' : World} {b : Nat} {cs : List Value} {ty : TypeId} (h : BoxN W b cs ty) (hb : Below W.heap.size W W') : BoxN W' b cs ty := h.to (hb.block _ h.lt)
theorem BoxN.frozen {W : World} {b : Nat} {cs : List Value} {ty : TypeId} (h : BoxN W b cs ty) (j : Nat) : W.frozen? ⟨b, j, none⟩ = false := by
  unfold BoxN at h
  unfold World.frozen?
  simp only [h]
  simp
theorem boxN_alloc (w : World) (cs : List Value) (ty : TypeId) : BoxN (w.alloc (.cells cs.toArray ty)) w.heap.size cs ty := alloc_at _ _

theorem below_dr1 {B : Nat} {a b : World} (h : Below B a b) : Below B a b.drew := ⟨h.os, h.tape, h.output, h.size, h.block⟩
def placesL (b : Nat) : List Value := [.pointer (some ⟨b, 4, none⟩), .pointer (some ⟨b, 5, none⟩), .pointer (some ⟨b, 6, none⟩), .pointer (some ⟨b, 7, none⟩), .pointer (some ⟨b, 8, none⟩), .pointer (some ⟨b, 9, none⟩), .pointer (some ⟨b, 10, none⟩)]

set_option maxHeartbeats 2000000 in
set_option maxRecDepth 100000 in
/-- pool.lists. -/
theorem lists_c (b : Nat) (w : World) : Calls Tryz.prog 105 #[.pointer (some ⟨b, 0, none⟩)] w fun e w' => e = .returned (.slice (some ⟨w.heap.size, 0, none⟩) 7 7) ∧ Below w.heap.size w w' ∧ BoxN w' w.heap.size (placesL b) 69 := by
  go_enter Tryz.func105, Tryz.ntmps105
  go_wp2_with fail
  go_region
  all_goals
    go_wp2_with fail
    go_ret
    exact ⟨rfl, below_dr1 (below1 _ _), boxN_alloc _ _ _⟩

theorem PkgV.slices {w : World} {S : Nat → Prop} {p : PkgT} {v : Fin 7 → Value} {vf : Value} (h : PkgV w S p v vf) : ∃ (a : Fin 7 → Option Addr) (c : Fin 7 → Nat), v = fun i => .slice (a i) (p.n i) (c i) := by
  refine ⟨fun i => (h.deps i).choose, fun i => (h.deps i).choose_spec.choose, ?_⟩
  funext i
  exact (h.deps i).choose_spec.choose_spec.1
def listsL (v : Fin 7 → Value) : List Value := [v 0, v 1, v 2, v 3, v 4, v 5, v 6]

set_option maxHeartbeats 2000000 in
set_option maxRecDepth 100000 in
/-- The document's Lists. -/
theorem rlists_c (nm ev ar ve : ByteArray) (a : Fin 7 → Option Addr) (n c : Fin 7 → Nat) (af : Option Addr) (nf cf : Nat) (w : World) :
    Calls Tryz.prog 58 #[.agg #[.string nm, .string ev, .string ar, .string ve, .slice (a 0) (n 0) (c 0), .slice (a 1) (n 1) (c 1), .slice (a 2) (n 2) (c 2), .slice (a 3) (n 3) (c 3), .slice (a 4) (n 4) (c 4), .slice (a 5) (n 5) (c 5), .slice (a 6) (n 6) (c 6), .slice af nf cf]] w fun e w' => ∃ b, e = .returned (.slice (some ⟨b, 0, none⟩) 7 7) ∧ w.heap.size ≤ b ∧ Below w.heap.size w w' ∧ BoxN w' b (listsL fun i => .slice (a i) (n i) (c i)) 33 := by
  obtain ⟨w1, e1⟩ : ∃ w1, w.alloc (.cells #[.string nm, .string ev, .string ar, .string ve, .slice (a 0) (n 0) (c 0), .slice (a 1) (n 1) (c 1), .slice (a 2) (n 2) (c 2), .slice (a 3) (n 3) (c 3), .slice (a 4) (n 4) (c 4), .slice (a 5) (n 5) (c 5), .slice (a 6) (n 6) (c 6), .slice af nf cf] 36) = w1 := ⟨_, rfl⟩
  have HB1 : Hid (Below w.heap.size w w1 ∧ BoxN w1 w.heap.size [.string nm, .string ev, .string ar, .string ve, .slice (a 0) (n 0) (c 0), .slice (a 1) (n 1) (c 1), .slice (a 2) (n 2) (c 2), .slice (a 3) (n 3) (c 3), .slice (a 4) (n 4) (c 4), .slice (a 5) (n 5) (c 5), .slice (a 6) (n 6) (c 6), .slice af nf cf] 36) := by
    rw [← e1]
    exact ⟨below1 _ _, boxN_alloc _ _ _⟩
  have p4 := HB1.out.2.cell (j := 4) rfl
  have p5 := HB1.out.2.cell (j := 5) rfl
  have p6 := HB1.out.2.cell (j := 6) rfl
  have p7 := HB1.out.2.cell (j := 7) rfl
  have p8 := HB1.out.2.cell (j := 8) rfl
  have p9 := HB1.out.2.cell (j := 9) rfl
  have p10 := HB1.out.2.cell (j := 10) rfl
  go_enter Tryz.func58, Tryz.ntmps58
  go_wp2_with fail
  go_ret
  exact ⟨_, rfl, HB1.out.1.size, below_tr HB1.out.1 (below1 _ _), boxN_alloc _ _ _⟩
end Go.Proofs.YtjcefgjgjhdbpaaGreatDoor
namespace Go.Proofs.YtjcefgjgjhdbpaaGreatDoor
set_option linter.unusedVariables false
set_option linter.unusedSimpArgs false
open Go.RowKit Go.Maps

def okList (p : PkgT) (i : Fin 7) : Bool := decide (p.n i ≤ 16) && (List.finRange (p.n i)).all fun j => depOk i (p.deps i j)
theorem depsB_no {p : PkgT} (i : Fin 7) (h : okList p i = false) : depsB p = false := by
  unfold depsB
  rw [List.all_eq_false]
  refine ⟨i, List.mem_finRange i, ?_⟩
  have : (decide (p.n i ≤ 16) && (List.finRange (p.n i)).all fun j => depOk i (p.deps i j)) = false := h
  rw [this]
  decide
theorem depsB_yes {p : PkgT} (h : ∀ j (hj : j < 7), okList p ⟨j, hj⟩ = true) : depsB p = true := by
  unfold depsB
  rw [List.all_eq_true]
  intro i _
  exact h i i.2
theorem okList_long {p : PkgT} (i : Fin 7) (h : 16 < (p.n i : Int)) : okList p i = false := by
  unfold okList
  rw [decide_eq_false (by omega)]
  rfl
theorem okList_bad {p : PkgT} (i : Fin 7) (j : Fin (p.n i)) (h : depOk i (p.deps i j) = false) : okList p i = false := by
  unfold okList
  rw [Bool.and_eq_false_iff]
  right
  rw [List.all_eq_false]
  exact ⟨j, List.mem_finRange j, by rw [h]; decide⟩
theorem okList_good {p : PkgT} (i : Fin 7) (h : ¬ 16 < (p.n i : Int)) (hj : ∀ j (h : j < p.n i), depOk i (p.deps i ⟨j, h⟩) = true) : okList p i = true := by
  unfold okList
  rw [decide_eq_true (by omega), Bool.true_and, List.all_eq_true]
  intro j _
  exact hj j j.2

/-- The ways of one dependency. -/
def Way (i : Nat) (k op q : Int) (x : Bool) : Prop :=
  (((i : Int) != 0) = true ∧ ((i : Int) != 4) = true ∧ ((i : Int) == 0) = false ∧ ((i : Int) == 4) = false ∧ (((q != 0) = true ∧ x = false) ∨ ((q != 0) = false ∧ x = true))) ∨
  (((i : Int) != 0) = true ∧ ((i : Int) != 4) = false ∧ ((i : Int) == 0) = false ∧ ((i : Int) == 4) = true ∧ (((k == 1) = false ∧ (k != 1) = true ∧ x = false) ∨ ((k == 1) = true ∧ (k != 1) = false ∧ (q != 0) = true ∧ x = false) ∨ ((k == 1) = true ∧ (k != 1) = false ∧ (q != 0) = false ∧ x = true))) ∨
  (((i : Int) != 0) = false ∧ ((i : Int) != 4) = true ∧ ((i : Int) == 0) = true ∧ ((i : Int) == 4) = false ∧ (((k == 1) = false ∧ (k != 1) = true ∧ x = false) ∨ ((k == 1) = true ∧ (k != 1) = false ∧ (q != 0) = true ∧ x = false) ∨ ((k == 1) = true ∧ (k != 1) = false ∧ (q != 0) = false ∧ (((op != 0) = false ∧ x = true) ∨ ((op != 0) = true ∧ (op != 2) = false ∧ x = true) ∨ ((op != 0) = true ∧ (op != 2) = true ∧ x = false)))))
theorem way_of (i : Nat) (d : DepT) : Way i d.kind d.op (depCheck d) (depOk i d) := by
  unfold depOk
  generalize depCheck d = q
  generalize d.kind = k
  generalize d.op = op
  unfold Way
  by_cases h0 : i = 0
  · subst h0
    refine .inr (.inr ⟨rfl, rfl, rfl, rfl, ?_⟩)
    by_cases hk : k = 1
    · by_cases hq : q = 0
      · right; right
        refine ⟨by simpa using hk, by simpa using hk, by simpa using hq, ?_⟩
        by_cases ho : op = 0
        · left; simp [hk, hq, ho]
        · right
          by_cases h2 : op = 2
          · left; simp [hk, hq, h2]
          · right; simp [hk, hq, ho, h2]
      · right; left; simp [hk, hq]
    · left; simp [hk]
  · by_cases h4 : i = 4
    · subst h4
      refine .inr (.inl ⟨rfl, rfl, rfl, rfl, ?_⟩)
      by_cases hk : k = 1
      · by_cases hq : q = 0
        · right; right; simp [hk, hq]
        · right; left; simp [hk, hq]
      · left; simp [hk]
    · have e0 : ((i : Int) == 0) = false := by simpa using h0
      have e4 : ((i : Int) == 4) = false := by
        have : ¬ (i : Int) = 4 := by omega
        simpa using this
      refine .inl ⟨by simpa using h0, ?_, e0, e4, ?_⟩
      · have : ¬ (i : Int) = 4 := by omega
        simpa using this
      · by_cases hq : q = 0
        · right; simp [h0, h4, hq]
        · left; simp [h0, h4, hq]

/-- One list of a package. -/
theorem list_ways {p : PkgT} {v : Fin 7 → Value} {vf : Value} {w : World} {S : Nat → Prop} (h : PkgV w S p v vf) (i : Fin 7) : ∃ n, ∃ args : Fin n → DepT, ∃ a c, v i = .slice a n c ∧ (n ≠ 0 → ∃ b off, a = some ⟨b, off, none⟩ ∧ S b ∧ ∀ i : Fin n, ∃ cs', DepC w S (args i) cs' ∧ CellsAt w b (off + i * 5) cs') ∧
    (16 < (n : Int) → okList p i = false) ∧ (∀ j, depOk i (args j) = false → okList p i = false) ∧ (¬ 16 < (n : Int) → (∀ j (h : j < n), depOk i (args ⟨j, h⟩) = true) → okList p i = true) := by
  obtain ⟨a, c, hv, hn, hd⟩ := h.deps i
  exact ⟨p.n i, p.deps i, a, c, hv, hd, okList_long i, okList_bad i, okList_good i⟩

theorem lists_at (b : Nat) {i : Nat} (h : i < 7) : (placesL b)[i]? = some (.pointer (some ⟨b, 4 + i, none⟩)) := by
  rcases i with _ | _ | _ | _ | _ | _ | _ | i
  · rfl
  · rfl
  · rfl
  · rfl
  · rfl
  · rfl
  · rfl
  · omega
theorem pkg_at (nm ev ar ve : ByteArray) (v : Fin 7 → Value) (vf : Value) {i : Nat} (h : i < 7) : (pkgCells nm ev ar ve v vf)[4 + i]? = some (v ⟨i, h⟩) := by
  rcases i with _ | _ | _ | _ | _ | _ | _ | i
  · rfl
  · rfl
  · rfl
  · rfl
  · rfl
  · rfl
  · rfl
  · omega
theorem listsL_at (v : Fin 7 → Value) {i : Nat} (h : i < 7) : (listsL v)[i]? = some (v ⟨i, h⟩) := by
  rcases i with _ | _ | _ | _ | _ | _ | _ | i
  · rfl
  · rfl
  · rfl
  · rfl
  · rfl
  · rfl
  · rfl
  · omega
end Go.Proofs.YtjcefgjgjhdbpaaGreatDoor
namespace Go.Proofs.YtjcefgjgjhdbpaaGreatDoor
set_option linter.unusedVariables false
set_option linter.unusedSimpArgs false
open Go.RowKit Go.Maps

set_option maxHeartbeats 4000000 in
set_option maxRecDepth 100000 in
/-- pool.deps. -/
theorem deps_c (p : PkgT) (a : Fin 7 → Option Addr) (c : Fin 7 → Nat) (af : Option Addr) (nf cf : Nat) (S : Nat → Prop) (w : World) (h : PkgV w S p (fun i => .slice (a i) (p.n i) (c i)) (.slice af nf cf)) (hS : ∀ b, S b → b < w.heap.size) :
    Calls Tryz.prog 68 #[.agg #[.string p.name, .string p.evr, .string p.arch, .string p.vendor, .slice (a 0) (p.n 0) (c 0), .slice (a 1) (p.n 1) (c 1), .slice (a 2) (p.n 2) (c 2), .slice (a 3) (p.n 3) (c 3), .slice (a 4) (p.n 4) (c 4), .slice (a 5) (p.n 5) (c 5), .slice (a 6) (p.n 6) (c 6), .slice af nf cf]] w fun e w' => e = .returned (.bool (depsB p)) ∧ Below w.heap.size w w' := by
  obtain ⟨w1, e1⟩ : ∃ w1, w.alloc (.cells #[.string p.name, .string p.evr, .string p.arch, .string p.vendor, .slice (a 0) (p.n 0) (c 0), .slice (a 1) (p.n 1) (c 1), .slice (a 2) (p.n 2) (c 2), .slice (a 3) (p.n 3) (c 3), .slice (a 4) (p.n 4) (c 4), .slice (a 5) (p.n 5) (c 5), .slice (a 6) (p.n 6) (c 6), .slice af nf cf] 36) = w1 := ⟨_, rfl⟩
  have HB1 : Hid (Below w.heap.size w w1 ∧ BoxN w1 w.heap.size (pkgCells p.name p.evr p.arch p.vendor (fun i => .slice (a i) (p.n i) (c i)) (.slice af nf cf)) 36) := by
    rw [← e1]
    exact ⟨below1 _ _, boxN_alloc _ _ _⟩
  obtain ⟨RES, hRES⟩ : ∃ RES, depsB p = RES := ⟨_, rfl⟩
  have HNO : Hid (∀ i : Fin 7, okList p i = false → RES = false) := fun i hi => by rw [← hRES]; exact depsB_no i hi
  have HYES : Hid ((∀ j (hj : j < 7), okList p ⟨j, hj⟩ = true) → RES = true) := fun h => by rw [← hRES]; exact depsB_yes h
  rw [hRES]
  clear hRES
  replace h := Lib.hid h
  replace hS := Lib.hid hS
  go_enter Tryz.func68, Tryz.ntmps68
  go_wp2_with fail
  refine (lists_c w.heap.size w1).mono ?_
  rintro e w2 ⟨rfl, hb2, hl2⟩
  have HB2 : Hid (Below w.heap.size w w2 ∧ BoxN w2 w.heap.size (pkgCells p.name p.evr p.arch p.vendor (fun i => .slice (a i) (p.n i) (c i)) (.slice af nf cf)) 36 ∧ BoxN w2 w1.heap.size (placesL w.heap.size) 69) := ⟨below_tr HB1.out.1 hb2, HB1.out.2.below hb2, hl2⟩
  clear hb2 hl2 e1 HB1
  generalize w1.heap.size = L at HB2
  clear w1
  go_wp2_with fail
  go_loopw [10] (fun vi wr => ∃ i : Nat, vi = .int .i64 i ∧ i ≤ 7 ∧ Hid (∀ j (hj : j < 7), j < i → okList p ⟨j, hj⟩ = true) ∧ Hid (Below w.heap.size w wr ∧ BoxN wr w.heap.size (pkgCells p.name p.evr p.arch p.vendor (fun i => .slice (a i) (p.n i) (c i)) (.slice af nf cf)) 36 ∧ BoxN wr L (placesL w.heap.size) 69)) (fun vi _ => 7 - (intOf vi).toNat)
  case atStart => exact ⟨0, rfl, by omega, fun j h h0 => absurd h0 (Nat.not_lt_zero _), HB2.out⟩
  case round =>
    obtain ⟨i, rfl, hin, HG, HT⟩ := hrel
    clear HB2
    by_cases hlt : i < 7
    · have hi1 : (i : Int) < 7 := by omega
      have hi1 : ¬ (7 : Int) ≤ i := by omega
      have l1 := HT.out.2.2.cell (lists_at _ hlt)
      obtain ⟨n, args, ai, ci, hv, HIN, HL, HBad, HGood⟩ := list_ways h.out ⟨i, hlt⟩
      have l2 : wr.cell? ⟨w.heap.size, 4 + i, none⟩ = some (.slice ai n ci) := by rw [← hv]; exact HT.out.2.1.cell (pkg_at _ _ _ _ _ _ hlt)
      have hNO := HNO.out ⟨i, hlt⟩
      have hOK : okList p ⟨i, hlt⟩ = true → ∀ j (h : j < 7), j < i + 1 → okList p ⟨j, h⟩ = true := by
        intro h0 j h hj
        rcases Nat.lt_succ_iff_lt_or_eq.1 hj with h1 | h1
        · exact HG.out j h h1
        · subst h1; exact h0
      replace hNO := Lib.hid hNO
      replace hOK := Lib.hid hOK
      generalize okList p ⟨i, hlt⟩ = okl at HL HBad HGood hNO hOK
      replace HL := Lib.hid HL
      replace HBad := Lib.hid HBad
      replace HGood := Lib.hid HGood
      replace HIN := Lib.hid HIN
      clear hv
      by_cases h16 : 16 < (n : Int)
      · go_wp2_with fail
        go_ret
        exact ⟨by rw [hNO.out (HL.out h16)]; rfl, HT.out.1⟩
      · go_wp2_with fail
        go_loopw [24] (fun vj wj => ∃ j : Nat, vj = .int .i64 j ∧ j ≤ n ∧ Hid (∀ k (hk : k < n), k < j → depOk i (args ⟨k, hk⟩) = true) ∧ Hid (Below w.heap.size w wj ∧ BoxN wj w.heap.size (pkgCells p.name p.evr p.arch p.vendor (fun i => .slice (a i) (p.n i) (c i)) (.slice af nf cf)) 36 ∧ BoxN wj L (placesL w.heap.size) 69)) (fun vj _ => n - (intOf vj).toNat)
        case atStart => exact ⟨0, rfl, by omega, fun j h h0 => absurd h0 (Nat.not_lt_zero _), HT.out⟩
        case round =>
          obtain ⟨j, rfl, hjn, HJ, HTJ⟩ := hrel
          clear l1 l2
          by_cases hjlt : j < n
          · have hj1 : (j : Int) < (n : Int) := by omega
            obtain ⟨b', off, rfl, hs, hi⟩ := HIN.out (by omega)
            obtain ⟨k', nm', op', ev', a', n', c', args', he⟩ := elem_at (hi ⟨j, hjlt⟩)
            have hBad := HBad.out ⟨j, hjlt⟩
            have hW := way_of i (args ⟨j, hjlt⟩)
            have hJ1 : depOk i (args ⟨j, hjlt⟩) = true → ∀ k (hk : k < n), k < j + 1 → depOk i (args ⟨k, hk⟩) = true := by
              intro h0 k h hk
              rcases Nat.lt_succ_iff_lt_or_eq.1 hk with h1 | h1
              · exact HJ.out k h h1
              · subst h1; exact h0
            have hC := depCheck_c (args ⟨j, hjlt⟩)
            have hkd : (args ⟨j, hjlt⟩).kind = k' := by rw [he.is_]; rfl
            have hop : (args ⟨j, hjlt⟩).op = op' := by rw [he.is_]; rfl
            rw [hkd, hop] at hW
            clear hkd hop
            generalize args ⟨j, hjlt⟩ = d' at hBad hW hJ1 hC he
            generalize depOk i d' = x at hBad hW hJ1
            generalize depCheck d' = q at hW hC
            replace he := Lib.hid (he.below HTJ.out.1)
            have HC : Hid (∀ w3, Below wr.heap.size wr w3 → Calls Tryz.prog 73 #[.agg #[.int .i64 k', .string nm', .int .i64 op', .string ev', .slice a' n' c']] w3 fun e w' => e = .returned (.int .i64 q) ∧ Below w3.heap.size w3 w') := fun w3 hb => hC _ S w3 (he.out.dep.below hb) fun b hb' => Nat.lt_of_lt_of_le (hS.out b hb') (Nat.le_trans HTJ.out.1.size hb.size)
            replace hBad := Lib.hid hBad
            replace hJ1 := Lib.hid hJ1
            clear hC hi
            have q0 := he.out.c0
            have q1 := he.out.c1
            have q2 := he.out.c2
            have q3 := he.out.c3
            have q4 := he.out.c4
            obtain ⟨w3, e3⟩ : ∃ w3, wr.alloc (.cells #[.int .i64 k', .string nm', .int .i64 op', .string ev', .slice a' n' c'] 73) = w3 := ⟨_, rfl⟩
            have HB3 : Hid (Below wr.heap.size wr w3 ∧ Box5 w3 wr.heap.size k' nm' op' ev' (.slice a' n' c')) := by
              rw [← e3]
              exact ⟨below1 _ _, .of (alloc_at _ _)⟩
            have r0 := HB3.out.2.c0
            have r1 := HB3.out.2.c1
            have r2 := HB3.out.2.c2
            have r3 := HB3.out.2.c3
            have r4 := HB3.out.2.c4
            unfold Way at hW
            rcases hW with ⟨f1, f2, f3, f4, hW⟩ | ⟨f1, f2, f3, f4, hW⟩ | ⟨f1, f2, f3, f4, hW⟩
            · rcases hW with ⟨g1, hx⟩ | ⟨g1, hx⟩
              · replace hx := Lib.hid hx
                go_wp2_with fail
                refine (HC.out w3 HB3.out.1).mono ?_
                rintro e w4 ⟨rfl, hb4⟩
                have HB4 : Hid (Below w3.heap.size w3 w4 ∧ Box5 w4 wr.heap.size k' nm' op' ev' (.slice a' n' c')) := ⟨hb4, HB3.out.2.below hb4⟩
                clear hb4 r0 r1 r2 r3 r4
                have r0 := HB4.out.2.c0
                have r2 := HB4.out.2.c2
                go_wp2_with fail
                go_ret
                exact ⟨by rw [hNO.out (hBad.out hx.out)]; rfl, below_tr (below_tr HTJ.out.1 HB3.out.1) HB4.out.1⟩
              · replace hx := Lib.hid hx
                go_wp2_with fail
                refine (HC.out w3 HB3.out.1).mono ?_
                rintro e w4 ⟨rfl, hb4⟩
                have HB4 : Hid (Below w3.heap.size w3 w4 ∧ Box5 w4 wr.heap.size k' nm' op' ev' (.slice a' n' c')) := ⟨hb4, HB3.out.2.below hb4⟩
                clear hb4 r0 r1 r2 r3 r4
                have r0 := HB4.out.2.c0
                have r2 := HB4.out.2.c2
                go_wp2_with fail
                go_roundw
                case rel => exact ⟨j + 1, by go_num, by omega, hJ1.out hx.out, below_tr (below_tr HTJ.out.1 HB3.out.1) HB4.out.1, (HTJ.out.2.1.below HB3.out.1).below HB4.out.1, (HTJ.out.2.2.below HB3.out.1).below HB4.out.1⟩
                case measure => simp [intOf]; omega
            · rcases hW with ⟨g1, g2, hx⟩ | ⟨g1, g2, g3, hx⟩ | ⟨g1, g2, g3, hx⟩
              · replace hx := Lib.hid hx
                go_wp2_with fail
                go_ret
                exact ⟨by rw [hNO.out (hBad.out hx.out)]; rfl, below_tr HTJ.out.1 HB3.out.1⟩
              · replace hx := Lib.hid hx
                go_wp2_with fail
                refine (HC.out w3 HB3.out.1).mono ?_
                rintro e w4 ⟨rfl, hb4⟩
                have HB4 : Hid (Below w3.heap.size w3 w4 ∧ Box5 w4 wr.heap.size k' nm' op' ev' (.slice a' n' c')) := ⟨hb4, HB3.out.2.below hb4⟩
                clear hb4 r0 r1 r2 r3 r4
                have r0 := HB4.out.2.c0
                have r2 := HB4.out.2.c2
                go_wp2_with fail
                go_ret
                exact ⟨by rw [hNO.out (hBad.out hx.out)]; rfl, below_tr (below_tr HTJ.out.1 HB3.out.1) HB4.out.1⟩
              · replace hx := Lib.hid hx
                go_wp2_with fail
                refine (HC.out w3 HB3.out.1).mono ?_
                rintro e w4 ⟨rfl, hb4⟩
                have HB4 : Hid (Below w3.heap.size w3 w4 ∧ Box5 w4 wr.heap.size k' nm' op' ev' (.slice a' n' c')) := ⟨hb4, HB3.out.2.below hb4⟩
                clear hb4 r0 r1 r2 r3 r4
                have r0 := HB4.out.2.c0
                have r2 := HB4.out.2.c2
                go_wp2_with fail
                go_roundw
                case rel => exact ⟨j + 1, by go_num, by omega, hJ1.out hx.out, below_tr (below_tr HTJ.out.1 HB3.out.1) HB4.out.1, (HTJ.out.2.1.below HB3.out.1).below HB4.out.1, (HTJ.out.2.2.below HB3.out.1).below HB4.out.1⟩
                case measure => simp [intOf]; omega
            · rcases hW with ⟨g1, g2, hx⟩ | ⟨g1, g2, g3, hx⟩ | ⟨g1, g2, g3, ⟨g4, hx⟩ | ⟨g4, g5, hx⟩ | ⟨g4, g5, hx⟩⟩
              · replace hx := Lib.hid hx
                go_wp2_with fail
                go_ret
                exact ⟨by rw [hNO.out (hBad.out hx.out)]; rfl, below_tr HTJ.out.1 HB3.out.1⟩
              · replace hx := Lib.hid hx
                go_wp2_with fail
                refine (HC.out w3 HB3.out.1).mono ?_
                rintro e w4 ⟨rfl, hb4⟩
                have HB4 : Hid (Below w3.heap.size w3 w4 ∧ Box5 w4 wr.heap.size k' nm' op' ev' (.slice a' n' c')) := ⟨hb4, HB3.out.2.below hb4⟩
                clear hb4 r0 r1 r2 r3 r4
                have r0 := HB4.out.2.c0
                have r2 := HB4.out.2.c2
                go_wp2_with fail
                go_ret
                exact ⟨by rw [hNO.out (hBad.out hx.out)]; rfl, below_tr (below_tr HTJ.out.1 HB3.out.1) HB4.out.1⟩
              · replace hx := Lib.hid hx
                go_wp2_with fail
                refine (HC.out w3 HB3.out.1).mono ?_
                rintro e w4 ⟨rfl, hb4⟩
                have HB4 : Hid (Below w3.heap.size w3 w4 ∧ Box5 w4 wr.heap.size k' nm' op' ev' (.slice a' n' c')) := ⟨hb4, HB3.out.2.below hb4⟩
                clear hb4 r0 r1 r2 r3 r4
                have r0 := HB4.out.2.c0
                have r2 := HB4.out.2.c2
                go_wp2_with fail
                go_roundw
                case rel => exact ⟨j + 1, by go_num, by omega, hJ1.out hx.out, below_tr (below_tr HTJ.out.1 HB3.out.1) HB4.out.1, (HTJ.out.2.1.below HB3.out.1).below HB4.out.1, (HTJ.out.2.2.below HB3.out.1).below HB4.out.1⟩
                case measure => simp [intOf]; omega
              · replace hx := Lib.hid hx
                go_wp2_with fail
                refine (HC.out w3 HB3.out.1).mono ?_
                rintro e w4 ⟨rfl, hb4⟩
                have HB4 : Hid (Below w3.heap.size w3 w4 ∧ Box5 w4 wr.heap.size k' nm' op' ev' (.slice a' n' c')) := ⟨hb4, HB3.out.2.below hb4⟩
                clear hb4 r0 r1 r2 r3 r4
                have r0 := HB4.out.2.c0
                have r2 := HB4.out.2.c2
                go_wp2_with fail
                go_roundw
                case rel => exact ⟨j + 1, by go_num, by omega, hJ1.out hx.out, below_tr (below_tr HTJ.out.1 HB3.out.1) HB4.out.1, (HTJ.out.2.1.below HB3.out.1).below HB4.out.1, (HTJ.out.2.2.below HB3.out.1).below HB4.out.1⟩
                case measure => simp [intOf]; omega
              · replace hx := Lib.hid hx
                go_wp2_with fail
                refine (HC.out w3 HB3.out.1).mono ?_
                rintro e w4 ⟨rfl, hb4⟩
                have HB4 : Hid (Below w3.heap.size w3 w4 ∧ Box5 w4 wr.heap.size k' nm' op' ev' (.slice a' n' c')) := ⟨hb4, HB3.out.2.below hb4⟩
                clear hb4 r0 r1 r2 r3 r4
                have r0 := HB4.out.2.c0
                have r2 := HB4.out.2.c2
                go_wp2_with fail
                go_ret
                exact ⟨by rw [hNO.out (hBad.out hx.out)]; rfl, below_tr (below_tr HTJ.out.1 HB3.out.1) HB4.out.1⟩
          · have hj1 : ¬ (j : Int) < (n : Int) := by omega
            have hR := HGood.out h16 fun k hk => HJ.out k hk (by omega)
            go_wp2_with fail
            go_roundw
            case rel => exact ⟨i + 1, by go_num, by omega, hOK.out hR, HTJ.out⟩
            case measure => simp [intOf]; omega
    · have hi1 : ¬ (i : Int) < 7 := by omega
      have hR := HYES.out fun j h => HG.out j h (by omega)
      go_wp2_with fail
      go_ret
      exact ⟨rfl, HT.out.1⟩
end Go.Proofs.YtjcefgjgjhdbpaaGreatDoor
namespace Go.Proofs.YtjcefgjgjhdbpaaGreatDoor
set_option linter.unusedVariables false
set_option linter.unusedSimpArgs false
open Go.RowKit Go.Maps

set_option maxHeartbeats 4000000 in
set_option maxRecDepth 100000 in
/-- The document's deps. -/
theorem rdeps_c (p : PkgT) (a : Fin 7 → Option Addr) (c : Fin 7 → Nat) (af : Option Addr) (nf cf : Nat) (S : Nat → Prop) (w : World) (h : PkgV w S p (fun i => .slice (a i) (p.n i) (c i)) (.slice af nf cf)) :
    Calls Tryz.prog 79 #[.agg #[.string p.name, .string p.evr, .string p.arch, .string p.vendor, .slice (a 0) (p.n 0) (c 0), .slice (a 1) (p.n 1) (c 1), .slice (a 2) (p.n 2) (c 2), .slice (a 3) (p.n 3) (c 3), .slice (a 4) (p.n 4) (c 4), .slice (a 5) (p.n 5) (c 5), .slice (a 6) (p.n 6) (c 6), .slice af nf cf]] w fun e w' => e = .returned (.bool (depsB p)) ∧ Below w.heap.size w w' := by
  obtain ⟨w1, e1⟩ : ∃ w1, w.alloc (.cells #[.string p.name, .string p.evr, .string p.arch, .string p.vendor, .slice (a 0) (p.n 0) (c 0), .slice (a 1) (p.n 1) (c 1), .slice (a 2) (p.n 2) (c 2), .slice (a 3) (p.n 3) (c 3), .slice (a 4) (p.n 4) (c 4), .slice (a 5) (p.n 5) (c 5), .slice (a 6) (p.n 6) (c 6), .slice af nf cf] 36) = w1 := ⟨_, rfl⟩
  have HB1 : Hid (Below w.heap.size w w1 ∧ BoxN w1 w.heap.size (pkgCells p.name p.evr p.arch p.vendor (fun i => .slice (a i) (p.n i) (c i)) (.slice af nf cf)) 36) := by
    rw [← e1]
    exact ⟨below1 _ _, boxN_alloc _ _ _⟩
  obtain ⟨RES, hRES⟩ : ∃ RES, depsB p = RES := ⟨_, rfl⟩
  have HNO : Hid (∀ i : Fin 7, okList p i = false → RES = false) := fun i hi => by rw [← hRES]; exact depsB_no i hi
  have HYES : Hid ((∀ j (hj : j < 7), okList p ⟨j, hj⟩ = true) → RES = true) := fun h => by rw [← hRES]; exact depsB_yes h
  rw [hRES]
  clear hRES
  replace h := Lib.hid h
  have p0 := HB1.out.2.cell (j := 0) rfl
  have p1 := HB1.out.2.cell (j := 1) rfl
  have p2 := HB1.out.2.cell (j := 2) rfl
  have p3 := HB1.out.2.cell (j := 3) rfl
  have p4 := HB1.out.2.cell (j := 4) rfl
  have p5 := HB1.out.2.cell (j := 5) rfl
  have p6 := HB1.out.2.cell (j := 6) rfl
  have p7 := HB1.out.2.cell (j := 7) rfl
  have p8 := HB1.out.2.cell (j := 8) rfl
  have p9 := HB1.out.2.cell (j := 9) rfl
  have p10 := HB1.out.2.cell (j := 10) rfl
  have p11 := HB1.out.2.cell (j := 11) rfl
  go_enter Tryz.func79, Tryz.ntmps79
  go_wp2_with fail
  refine (rlists_c p.name p.evr p.arch p.vendor a p.n c af nf cf w1).mono ?_
  rintro e w2 ⟨L, rfl, _, hb2, hl2⟩
  have HB2 : Hid (Below w.heap.size w w2 ∧ BoxN w2 L (listsL fun i => .slice (a i) (p.n i) (c i)) 33) := ⟨below_tr HB1.out.1 hb2, hl2⟩
  clear hb2 hl2 e1 HB1 p0 p1 p2 p3 p4 p5 p6 p7 p8 p9 p10 p11
  go_wp2_with fail
  go_loopw [4] (fun vi wr => ∃ i : Nat, vi = .int .i64 i ∧ i ≤ 7 ∧ Hid (∀ j (hj : j < 7), j < i → okList p ⟨j, hj⟩ = true) ∧ Hid (Below w.heap.size w wr ∧ BoxN wr L (listsL fun i => .slice (a i) (p.n i) (c i)) 33)) (fun vi _ => 7 - (intOf vi).toNat)
  case atStart => exact ⟨0, rfl, by omega, fun j h h0 => absurd h0 (Nat.not_lt_zero _), HB2.out⟩
  case round =>
    obtain ⟨i, rfl, hin, HG, HT⟩ := hrel
    clear HB2
    by_cases hlt : i < 7
    · have hi1 : (i : Int) < 7 := by omega
      have hi2 : ¬ (7 : Int) ≤ i := by omega
      obtain ⟨n, args, ai, ci, hv, HIN, HL, HBad, HGood⟩ := list_ways h.out ⟨i, hlt⟩
      have l1 : wr.cell? ⟨L, i, none⟩ = some (.slice ai n ci) := by rw [← hv]; exact HT.out.2.cell (listsL_at _ hlt)
      have hNO := HNO.out ⟨i, hlt⟩
      have hOK : okList p ⟨i, hlt⟩ = true → ∀ j (h : j < 7), j < i + 1 → okList p ⟨j, h⟩ = true := by
        intro h0 j h hj
        rcases Nat.lt_succ_iff_lt_or_eq.1 hj with h1 | h1
        · exact HG.out j h h1
        · subst h1; exact h0
      replace hNO := Lib.hid hNO
      replace hOK := Lib.hid hOK
      have HLC : Hid (∀ W : World, BoxN W L (listsL fun i => .slice (a i) (p.n i) (c i)) 33 → W.cell? ⟨L, i, none⟩ = some (.slice ai n ci)) := fun W hW => by rw [← hv]; exact hW.cell (listsL_at _ hlt)
      generalize okList p ⟨i, hlt⟩ = okl at HL HBad HGood hNO hOK
      replace HL := Lib.hid HL
      replace HBad := Lib.hid HBad
      replace HGood := Lib.hid HGood
      replace HIN := Lib.hid HIN
      clear hv
      by_cases h16 : 16 < (n : Int)
      · go_wp2_with fail
        go_ret
        exact ⟨by rw [hNO.out (HL.out h16)]; rfl, HT.out.1⟩
      · go_wp2_with fail
        go_loopw [5] (fun vj wj => ∃ j : Nat, vj = .int .i64 j ∧ j ≤ n ∧ Hid (∀ k (hk : k < n), k < j → depOk i (args ⟨k, hk⟩) = true) ∧ Hid (Below w.heap.size w wj ∧ BoxN wj L (listsL fun i => .slice (a i) (p.n i) (c i)) 33)) (fun vj _ => n - (intOf vj).toNat)
        case atStart => exact ⟨0, rfl, by omega, fun j h h0 => absurd h0 (Nat.not_lt_zero _), HT.out⟩
        case round =>
          obtain ⟨j, rfl, hjn, HJ, HTJ⟩ := hrel
          clear l1
          have l1 := HLC.out _ HTJ.out.2
          by_cases hjlt : j < n
          · have hj1 : (j : Int) < (n : Int) := by omega
            obtain ⟨b', off, rfl, hs, hi⟩ := HIN.out (by omega)
            obtain ⟨k', nm', op', ev', a', n', c', args', he⟩ := elem_at (hi ⟨j, hjlt⟩)
            have hBad := HBad.out ⟨j, hjlt⟩
            have hW := way_of i (args ⟨j, hjlt⟩)
            have hJ1 : depOk i (args ⟨j, hjlt⟩) = true → ∀ k (hk : k < n), k < j + 1 → depOk i (args ⟨k, hk⟩) = true := by
              intro h0 k h hk
              rcases Nat.lt_succ_iff_lt_or_eq.1 hk with h1 | h1
              · exact HJ.out k h h1
              · subst h1; exact h0
            have hC := rdepCheck_c (args ⟨j, hjlt⟩)
            have hkd : (args ⟨j, hjlt⟩).kind = k' := by rw [he.is_]; rfl
            have hop : (args ⟨j, hjlt⟩).op = op' := by rw [he.is_]; rfl
            rw [hkd, hop] at hW
            clear hkd hop
            generalize args ⟨j, hjlt⟩ = d' at hBad hW hJ1 hC he
            generalize depOk i d' = x at hBad hW hJ1
            generalize depCheck d' = q at hW hC
            replace he := Lib.hid (he.below HTJ.out.1)
            have HC : Hid (∀ w3, Below wr.heap.size wr w3 → Calls Tryz.prog 117 #[.agg #[.int .i64 k', .string nm', .int .i64 op', .string ev', .slice a' n' c']] w3 fun e w' => e = .returned (.int .i64 q) ∧ Below w3.heap.size w3 w') := fun w3 hb => hC _ S w3 (he.out.dep.below hb)
            replace hBad := Lib.hid hBad
            replace hJ1 := Lib.hid hJ1
            clear hC hi
            have q0 := he.out.c0
            have q1 := he.out.c1
            have q2 := he.out.c2
            have q3 := he.out.c3
            have q4 := he.out.c4
            obtain ⟨w3, e3⟩ : ∃ w3, wr.alloc (.cells #[.int .i64 k', .string nm', .int .i64 op', .string ev', .slice a' n' c'] 73) = w3 := ⟨_, rfl⟩
            have HB3 : Hid (Below wr.heap.size wr w3 ∧ Box5 w3 wr.heap.size k' nm' op' ev' (.slice a' n' c')) := by
              rw [← e3]
              exact ⟨below1 _ _, .of (alloc_at _ _)⟩
            have r0 := HB3.out.2.c0
            have r1 := HB3.out.2.c1
            have r2 := HB3.out.2.c2
            have r3 := HB3.out.2.c3
            have r4 := HB3.out.2.c4
            unfold Way at hW
            rcases hW with ⟨f1, f2, f3, f4, hW⟩ | ⟨f1, f2, f3, f4, hW⟩ | ⟨f1, f2, f3, f4, hW⟩
            · rcases hW with ⟨g1, hx⟩ | ⟨g1, hx⟩
              · replace hx := Lib.hid hx
                go_wp2_with fail
                refine (HC.out w3 HB3.out.1).mono ?_
                rintro e w4 ⟨rfl, hb4⟩
                have HB4 : Hid (Below w3.heap.size w3 w4 ∧ Box5 w4 wr.heap.size k' nm' op' ev' (.slice a' n' c')) := ⟨hb4, HB3.out.2.below hb4⟩
                clear hb4 r0 r1 r2 r3 r4
                have r0 := HB4.out.2.c0
                have r2 := HB4.out.2.c2
                go_wp2_with fail
                go_ret
                exact ⟨by rw [hNO.out (hBad.out hx.out)]; rfl, below_tr (below_tr HTJ.out.1 HB3.out.1) HB4.out.1⟩
              · replace hx := Lib.hid hx
                go_wp2_with fail
                refine (HC.out w3 HB3.out.1).mono ?_
                rintro e w4 ⟨rfl, hb4⟩
                have HB4 : Hid (Below w3.heap.size w3 w4 ∧ Box5 w4 wr.heap.size k' nm' op' ev' (.slice a' n' c')) := ⟨hb4, HB3.out.2.below hb4⟩
                clear hb4 r0 r1 r2 r3 r4
                have r0 := HB4.out.2.c0
                have r2 := HB4.out.2.c2
                go_wp2_with fail
                go_roundw
                case rel => exact ⟨j + 1, by go_num, by omega, hJ1.out hx.out, below_tr (below_tr HTJ.out.1 HB3.out.1) HB4.out.1, (HTJ.out.2.below HB3.out.1).below HB4.out.1⟩
                case measure => simp [intOf]; omega
            · rcases hW with ⟨g1, g2, hx⟩ | ⟨g1, g2, g3, hx⟩ | ⟨g1, g2, g3, hx⟩
              · replace hx := Lib.hid hx
                have hq : (q != 0) = true ∨ (q != 0) = false := by cases (q != 0) <;> simp
                rcases hq with hq | hq
                · go_wp2_with fail
                  refine (HC.out w3 HB3.out.1).mono ?_
                  rintro e w4 ⟨rfl, hb4⟩
                  have HB4 : Hid (Below w3.heap.size w3 w4 ∧ Box5 w4 wr.heap.size k' nm' op' ev' (.slice a' n' c')) := ⟨hb4, HB3.out.2.below hb4⟩
                  clear hb4 r0 r1 r2 r3 r4
                  have r0 := HB4.out.2.c0
                  have r2 := HB4.out.2.c2
                  go_wp2_with fail
                  go_ret
                  exact ⟨by rw [hNO.out (hBad.out hx.out)]; rfl, below_tr (below_tr HTJ.out.1 HB3.out.1) HB4.out.1⟩
                · go_wp2_with fail
                  refine (HC.out w3 HB3.out.1).mono ?_
                  rintro e w4 ⟨rfl, hb4⟩
                  have HB4 : Hid (Below w3.heap.size w3 w4 ∧ Box5 w4 wr.heap.size k' nm' op' ev' (.slice a' n' c')) := ⟨hb4, HB3.out.2.below hb4⟩
                  clear hb4 r0 r1 r2 r3 r4
                  have r0 := HB4.out.2.c0
                  have r2 := HB4.out.2.c2
                  go_wp2_with fail
                  go_ret
                  exact ⟨by rw [hNO.out (hBad.out hx.out)]; rfl, below_tr (below_tr HTJ.out.1 HB3.out.1) HB4.out.1⟩
              · replace hx := Lib.hid hx
                go_wp2_with fail
                refine (HC.out w3 HB3.out.1).mono ?_
                rintro e w4 ⟨rfl, hb4⟩
                have HB4 : Hid (Below w3.heap.size w3 w4 ∧ Box5 w4 wr.heap.size k' nm' op' ev' (.slice a' n' c')) := ⟨hb4, HB3.out.2.below hb4⟩
                clear hb4 r0 r1 r2 r3 r4
                have r0 := HB4.out.2.c0
                have r2 := HB4.out.2.c2
                go_wp2_with fail
                go_ret
                exact ⟨by rw [hNO.out (hBad.out hx.out)]; rfl, below_tr (below_tr HTJ.out.1 HB3.out.1) HB4.out.1⟩
              · replace hx := Lib.hid hx
                go_wp2_with fail
                refine (HC.out w3 HB3.out.1).mono ?_
                rintro e w4 ⟨rfl, hb4⟩
                have HB4 : Hid (Below w3.heap.size w3 w4 ∧ Box5 w4 wr.heap.size k' nm' op' ev' (.slice a' n' c')) := ⟨hb4, HB3.out.2.below hb4⟩
                clear hb4 r0 r1 r2 r3 r4
                have r0 := HB4.out.2.c0
                have r2 := HB4.out.2.c2
                go_wp2_with fail
                go_roundw
                case rel => exact ⟨j + 1, by go_num, by omega, hJ1.out hx.out, below_tr (below_tr HTJ.out.1 HB3.out.1) HB4.out.1, (HTJ.out.2.below HB3.out.1).below HB4.out.1⟩
                case measure => simp [intOf]; omega
            · rcases hW with ⟨g1, g2, hx⟩ | ⟨g1, g2, g3, hx⟩ | ⟨g1, g2, g3, ⟨g4, hx⟩ | ⟨g4, g5, hx⟩ | ⟨g4, g5, hx⟩⟩
              · replace hx := Lib.hid hx
                have hq : (q != 0) = true ∨ (q != 0) = false := by cases (q != 0) <;> simp
                rcases hq with hq | hq
                · go_wp2_with fail
                  refine (HC.out w3 HB3.out.1).mono ?_
                  rintro e w4 ⟨rfl, hb4⟩
                  have HB4 : Hid (Below w3.heap.size w3 w4 ∧ Box5 w4 wr.heap.size k' nm' op' ev' (.slice a' n' c')) := ⟨hb4, HB3.out.2.below hb4⟩
                  clear hb4 r0 r1 r2 r3 r4
                  have r0 := HB4.out.2.c0
                  have r2 := HB4.out.2.c2
                  go_wp2_with fail
                  go_ret
                  exact ⟨by rw [hNO.out (hBad.out hx.out)]; rfl, below_tr (below_tr HTJ.out.1 HB3.out.1) HB4.out.1⟩
                · go_wp2_with fail
                  refine (HC.out w3 HB3.out.1).mono ?_
                  rintro e w4 ⟨rfl, hb4⟩
                  have HB4 : Hid (Below w3.heap.size w3 w4 ∧ Box5 w4 wr.heap.size k' nm' op' ev' (.slice a' n' c')) := ⟨hb4, HB3.out.2.below hb4⟩
                  clear hb4 r0 r1 r2 r3 r4
                  have r0 := HB4.out.2.c0
                  have r2 := HB4.out.2.c2
                  go_wp2_with fail
                  go_ret
                  exact ⟨by rw [hNO.out (hBad.out hx.out)]; rfl, below_tr (below_tr HTJ.out.1 HB3.out.1) HB4.out.1⟩
              · replace hx := Lib.hid hx
                go_wp2_with fail
                refine (HC.out w3 HB3.out.1).mono ?_
                rintro e w4 ⟨rfl, hb4⟩
                have HB4 : Hid (Below w3.heap.size w3 w4 ∧ Box5 w4 wr.heap.size k' nm' op' ev' (.slice a' n' c')) := ⟨hb4, HB3.out.2.below hb4⟩
                clear hb4 r0 r1 r2 r3 r4
                have r0 := HB4.out.2.c0
                have r2 := HB4.out.2.c2
                go_wp2_with fail
                go_ret
                exact ⟨by rw [hNO.out (hBad.out hx.out)]; rfl, below_tr (below_tr HTJ.out.1 HB3.out.1) HB4.out.1⟩
              · replace hx := Lib.hid hx
                go_wp2_with fail
                refine (HC.out w3 HB3.out.1).mono ?_
                rintro e w4 ⟨rfl, hb4⟩
                have HB4 : Hid (Below w3.heap.size w3 w4 ∧ Box5 w4 wr.heap.size k' nm' op' ev' (.slice a' n' c')) := ⟨hb4, HB3.out.2.below hb4⟩
                clear hb4 r0 r1 r2 r3 r4
                have r0 := HB4.out.2.c0
                have r2 := HB4.out.2.c2
                go_wp2_with fail
                go_roundw
                case rel => exact ⟨j + 1, by go_num, by omega, hJ1.out hx.out, below_tr (below_tr HTJ.out.1 HB3.out.1) HB4.out.1, (HTJ.out.2.below HB3.out.1).below HB4.out.1⟩
                case measure => simp [intOf]; omega
              · replace hx := Lib.hid hx
                go_wp2_with fail
                refine (HC.out w3 HB3.out.1).mono ?_
                rintro e w4 ⟨rfl, hb4⟩
                have HB4 : Hid (Below w3.heap.size w3 w4 ∧ Box5 w4 wr.heap.size k' nm' op' ev' (.slice a' n' c')) := ⟨hb4, HB3.out.2.below hb4⟩
                clear hb4 r0 r1 r2 r3 r4
                have r0 := HB4.out.2.c0
                have r2 := HB4.out.2.c2
                go_wp2_with fail
                go_roundw
                case rel => exact ⟨j + 1, by go_num, by omega, hJ1.out hx.out, below_tr (below_tr HTJ.out.1 HB3.out.1) HB4.out.1, (HTJ.out.2.below HB3.out.1).below HB4.out.1⟩
                case measure => simp [intOf]; omega
              · replace hx := Lib.hid hx
                go_wp2_with fail
                refine (HC.out w3 HB3.out.1).mono ?_
                rintro e w4 ⟨rfl, hb4⟩
                have HB4 : Hid (Below w3.heap.size w3 w4 ∧ Box5 w4 wr.heap.size k' nm' op' ev' (.slice a' n' c')) := ⟨hb4, HB3.out.2.below hb4⟩
                clear hb4 r0 r1 r2 r3 r4
                have r0 := HB4.out.2.c0
                have r2 := HB4.out.2.c2
                go_wp2_with fail
                go_ret
                exact ⟨by rw [hNO.out (hBad.out hx.out)]; rfl, below_tr (below_tr HTJ.out.1 HB3.out.1) HB4.out.1⟩
          · have hj1 : ¬ (j : Int) < (n : Int) := by omega
            have hR := HGood.out h16 fun k hk => HJ.out k hk (by omega)
            go_wp2_with fail
            go_roundw
            case rel => exact ⟨i + 1, by go_num, by omega, hOK.out hR, HTJ.out⟩
            case measure => simp [intOf]; omega
    · have hi1 : ¬ (i : Int) < 7 := by omega
      have hR := HYES.out fun j h => HG.out j h (by omega)
      go_wp2_with fail
      go_ret
      exact ⟨rfl, HT.out.1⟩
end Go.Proofs.YtjcefgjgjhdbpaaGreatDoor
