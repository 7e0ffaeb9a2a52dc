/-
  Lists of integers in memory; the document's Has, Put1, Meet, Minus, Same; Sort. Helper text; the conditions are those typed.
-/
import Derived.Test.YtnplmembdfklcaaGreatDoorMem
import Derived.Test.YtnplmembdfklcaaGreatDoorShelf2
import Derived.Sort.OwnSortedInts
import Derived.Sort.Grow
import Derived.Lib.OwnBridge
import Derived.BigQuiet
import Derived.Deep.QuietTactic
import Derived.Deep.RegionHeld3
import Derived.Deep.DrawnRows
import Derived.StillTailTactics
import Derived.OwnWalk
import Derived.KernelRfl
namespace Go.Proofs.YtnplmembdfklcaaGreatDoor
set_option linter.unusedVariables false
set_option linter.unusedSimpArgs false
open Go.RowKit Go.Maps Go.Shelf Go.Sort

theorem cell_grown {w w' : World} {p : Addr} {v : Value} {row : Option Nat} (hg : w.grownBy w' row) (h : w.cell? p = some v) (hne : row ≠ some p.block) : w'.cell? p = some v :=
  (World.cell?_of_block (w := w) (hg.block _ (World.block_lt_of_cell? w _ h) (fun e => hne e.symm))).trans h

theorem cells_new (w : World) (cs : List Value) (t : TypeId) : ∀ j u, cs[j]? = some u → (w.alloc (.cells cs.toArray t)).cell? ((⟨w.heap.size, 0, none⟩ : Addr).add j) = some u := by
  intro j u hu
  have e : (⟨w.heap.size, 0, none⟩ : Addr).add j = ⟨w.heap.size, j, none⟩ := by
    unfold Addr.add
    split
    · rename_i h; subst h; rfl
    · simp
  rw [e]
  have := heap_alloc_new w (.cells cs.toArray t)
  unfold World.cell?
  simp only [this]
  simpa using hu

theorem ints_below_alloc (w : World) (o : Obj) : Below w.heap.size w (w.alloc o) := below1 w o
/-- A list that rises, each number once. -/
def Rising (l : List Int) : Prop := l.Pairwise (· < ·)

theorem Rising.tail {x : Int} {l : List Int} (h : Rising (x :: l)) : Rising l := (List.pairwise_cons.1 h).2

theorem Rising.head {x : Int} {l : List Int} (h : Rising (x :: l)) : ∀ y ∈ l, x < y := (List.pairwise_cons.1 h).1

theorem Rising.cons {x : Int} {l : List Int} (h : Rising l) (hx : ∀ y ∈ l, x < y) : Rising (x :: l) := List.pairwise_cons.2 ⟨hx, h⟩

theorem Rising.nil : Rising [] := List.Pairwise.nil

theorem Rising.filter {l : List Int} (h : Rising l) (p : Int → Bool) : Rising (l.filter p) := List.Pairwise.filter p h

theorem rising_ext : ∀ {l m : List Int}, Rising l → Rising m → (∀ x, x ∈ l ↔ x ∈ m) → l = m
  | [], [], _, _, _ => rfl
  | [], y :: m, _, _, h => by have := (h y).2 (by simp); cases this
  | x :: l, [], _, _, h => by have := (h x).1 (by simp); cases this
  | x :: l, y :: m, hl, hm, h => by
    have hxy : x = y := by
      have h1 := (h x).1 (by simp)
      have h2 := (h y).2 (by simp)
      rcases List.mem_cons.1 h1 with e | h1
      · exact e
      rcases List.mem_cons.1 h2 with e | h2
      · exact e.symm
      have := hl.head y h2
      have := hm.head x h1
      omega
    subst hxy
    congr 1
    refine rising_ext hl.tail hm.tail fun z => ?_
    constructor
    · intro hz
      rcases List.mem_cons.1 ((h z).1 (by simp [hz])) with e | h1
      · have := hl.head z hz; omega
      · exact h1
    · intro hz
      rcases List.mem_cons.1 ((h z).2 (by simp [hz])) with e | h1
      · have := hm.head z hz; omega
      · exact h1

def put1 : List Int → Int → List Int
  | [], n => [n]
  | x :: l, n => if x < n then x :: put1 l n else if x = n then x :: l else n :: x :: l

theorem mem_put1 : ∀ {l : List Int} {n m : Int}, m ∈ put1 l n ↔ m = n ∨ m ∈ l
  | [], n, m => by simp [put1]
  | x :: l, n, m => by
    unfold put1
    split
    · rw [List.mem_cons, mem_put1, List.mem_cons]
      constructor
      · rintro (h | h | h) <;> simp [h]
      · rintro (h | h | h) <;> simp [h]
    · split
      · rename_i h
        subst h
        simp
      · simp

theorem put1_rising : ∀ {l : List Int} {n : Int}, Rising l → Rising (put1 l n)
  | [], n, _ => List.pairwise_singleton _ _
  | x :: l, n, h => by
    unfold put1
    split
    · rename_i hx
      refine (put1_rising h.tail).cons fun y hy => ?_
      rcases mem_put1.1 hy with rfl | hy
      · exact hx
      · exact h.head y hy
    · split
      · exact h
      · refine h.cons fun y hy => ?_
        rcases List.mem_cons.1 hy with rfl | hy
        · omega
        · have := h.head y hy; omega

def refSort (l : List Int) : List Int := l.foldl put1 []

theorem foldl_rising : ∀ {l acc : List Int}, Rising acc → Rising (l.foldl put1 acc)
  | [], acc, h => h
  | x :: l, acc, h => foldl_rising (l := l) (put1_rising h)

theorem mem_foldl : ∀ {l acc : List Int} {m : Int}, m ∈ l.foldl put1 acc ↔ m ∈ acc ∨ m ∈ l
  | [], acc, m => by simp
  | x :: l, acc, m => by
    rw [List.foldl_cons, mem_foldl, mem_put1, List.mem_cons]
    constructor
    · rintro ((h | h) | h) <;> simp [h]
    · rintro (h | h | h) <;> simp [h]

theorem refSort_rising (l : List Int) : Rising (refSort l) := foldl_rising Rising.nil

theorem mem_refSort {l : List Int} {m : Int} : m ∈ refSort l ↔ m ∈ l := by simp [refSort, mem_foldl]

theorem put1_length (l : List Int) (n : Int) : (put1 l n).length ≤ l.length + 1 := by
  induction l with
  | nil => simp [put1]
  | cons x l ih =>
    unfold put1
    split
    · simp only [List.length_cons]; omega
    · split <;> simp

theorem refSort_length (l : List Int) : (refSort l).length ≤ l.length := by
  have h2 : ∀ (xs acc : List Int), (xs.foldl put1 acc).length ≤ acc.length + xs.length := by
    intro xs
    induction xs with
    | nil => intro acc; simp
    | cons y ys ih =>
      intro acc
      have h3 := ih (put1 acc y)
      have h4 := put1_length acc y
      simp only [List.foldl_cons, List.length_cons]
      omega
  have := h2 l []
  unfold refSort
  simpa using this

/-- The slice with address a reads as the integers zs. -/
def IntsAt (w : World) (a : Option Addr) (zs : List Int) : Prop :=
  zs = [] ∨ ∃ b off, a = some ⟨b, off, none⟩ ∧ ∀ i, i < zs.length → w.cell? ⟨b, off + i, none⟩ = some (.int .i64 (zs.getD i 0))

/-- v is a slice of integers in memory made since w0, and of what was there nothing has turned. -/
def OwnI (w0 : World) (v : Value) (zs : List Int) (w : World) : Prop := w.ownsRow w0.heap.size 3 1 v zs.length (zs.map (Value.int .i64)) ∧ Below w0.heap.size w0 w

theorem OwnI.slice {w0 w : World} {v : Value} {zs : List Int} (h : OwnI w0 v zs w) : ∃ a c, v = .slice a zs.length c ∧ IntsAt w a zs := by
  obtain ⟨h, _⟩ := h
  rcases h.2 with ⟨rfl, h0⟩ | ⟨g, cap, cur, rfl, _⟩
  · exact ⟨none, 0, by rw [h0], .inl (List.length_eq_zero_iff.1 h0)⟩
  · refine ⟨_, _, rfl, .inr ⟨g, 0, rfl, fun i hi => ?_⟩⟩
    have := h.cellAt i (by omega)
    rw [Nat.zero_add, this]
    simp [List.getD, List.getElem?_eq_getElem hi]

theorem IntsAt.below {w w' : World} {a : Option Addr} {zs : List Int} (h : IntsAt w a zs) (hc : Below w.heap.size w w') : IntsAt w' a zs := by
  rcases h with h | ⟨b, off, rfl, hcell⟩
  · exact .inl h
  · exact .inr ⟨b, off, rfl, fun i hi => (World.cell?_of_block (w := w) (hc.block b (World.block_lt_of_cell? w _ (hcell i hi)))).trans (hcell i hi)⟩

theorem ints_new (w : World) (zs : List Int) (t : TypeId) : IntsAt (w.alloc (.cells (zs.map (Value.int .i64)).toArray t)) (some ⟨w.heap.size, 0, none⟩) zs := by
  refine .inr ⟨_, _, rfl, fun i hi => ?_⟩
  have := cells_new w (zs.map (Value.int .i64)) t i (.int .i64 (zs.getD i 0)) (by simp [List.getD, hi])
  rw [← this]
  unfold Addr.add
  split
  · rename_i h; subst h; rfl
  · rfl

theorem sortS_in {w0 w : World} {v : Value} {zs : List Int} (h : OwnI w0 v zs w) (hl : zs.length < 4611686018427387904) :
    Calls Tryz.prog 36 #[v] w fun e w' => e = .returned (.tuple #[]) ∧ OwnI w0 v (zs.mergeSort fun x y => decide (x ≤ y)) w' := by
  obtain ⟨ho, hb⟩ := h
  have hlen : (zs.mergeSort fun x y => decide (x ≤ y)).length = zs.length := List.length_mergeSort zs
  rcases ho.2 with ⟨rfl, h0⟩ | ⟨g, cap, cur, hv, hbase, hg, h1, h2, h3, h4⟩
  · have hz := List.length_eq_zero_iff.1 h0
    subst hz
    exact (Any.slices_Sort_int_none Tryz.laySortI none 0 w).mono fun e w' ⟨he, hw⟩ => ⟨he, by subst hw; rw [List.mergeSort_nil]; exact ⟨World.ownsRow_nil _ _ _ _, hb⟩⟩
  · subst hv
    obtain ⟨g', cap', hv, _, hlt, _, _, _, hH⟩ := Lib.holds_of_ownsRow (enc := Value.int .i64) ho (by simp)
    simp only [Value.slice.injEq, Option.some.injEq, Addr.mk.injEq, true_and, and_true] at hv
    obtain ⟨rfl, rfl⟩ := hv
    refine (Any.slices_Sort_int Tryz.laySortI g 0 cap zs w hH hlt hl).mono fun e w' ⟨he, n, os, hw⟩ => ⟨he, ?_⟩
    subst hw
    refine ⟨?_, ?_⟩
    · rw [hlen]
      exact ownsRow_sortedI (n := n) (os := os) hlen hbase hg h1 h2 h3
    · exact hb.grown (grownBy_sortedI _) hb.size (fun j hj => by cases hj; exact hbase)

theorem same_in {w : World} {a b : Option Addr} {xs ys : List Int} (ha : IntsAt w a xs) (hb : IntsAt w b ys) (ca cb : Nat) (hl : xs.length ≤ maxLen) (hl2 : ys.length ≤ maxLen) :
    Calls Tryz.prog 26 #[.slice a xs.length ca, .slice b ys.length cb] w fun e w' => e = .returned (.bool (decide (xs = ys))) ∧ ∃ n, w' = w.drewN n := by
  unfold maxLen at hl hl2
  by_cases hlen : xs.length = ys.length
  · have hlen' : ((xs.length : Int) != (ys.length : Int)) = false := by simp [hlen]
    have HA := Lib.hid ha
    have HB := Lib.hid hb
    clear ha hb
    go_enter Tryz.func26, Tryz.ntmps26
    go_wp2_with fail
    go_loopw [5] (fun i wr => ∃ k : Nat, k ≤ xs.length ∧ i = .int .i64 k ∧ (∃ n, wr = w.drewN n) ∧ ∀ j, j < k → xs[j]? = ys[j]?) (fun i _ => xs.length - (intOf i).toNat)
    case atStart => exact ⟨0, Nat.zero_le _, rfl, ⟨0, rfl⟩, fun j hj => absurd hj (Nat.not_lt_zero j)⟩
    case round =>
      obtain ⟨k, hk, rfl, ⟨n, rfl⟩, hpre⟩ := hrel
      have HP := Lib.hid hpre
      clear hpre
      by_cases hkl : k < xs.length
      · have hkl2 : k < ys.length := by omega
        obtain ⟨b1, o1, rfl, hc1⟩ : ∃ b off, a = some ⟨b, off, none⟩ ∧ w.cell? ⟨b, off + k, none⟩ = some (.int .i64 xs[k]) := by
          rcases HA.out with h0 | ⟨b, off, e, hc⟩
          · rw [h0] at hkl; simp at hkl
          · exact ⟨b, off, e, by rw [hc k hkl]; simp [List.getD, List.getElem?_eq_getElem hkl]⟩
        obtain ⟨b2, o2, rfl, hc2⟩ : ∃ b' off, b = some ⟨b', off, none⟩ ∧ w.cell? ⟨b', off + k, none⟩ = some (.int .i64 ys[k]) := by
          rcases HB.out with h0 | ⟨b, off, e, hc⟩
          · rw [h0] at hkl2; simp at hkl2
          · exact ⟨b, off, e, by rw [hc k hkl2]; simp [List.getD, List.getElem?_eq_getElem hkl2]⟩
        have hlt : (k : Int) < (xs.length : Int) := by omega
        have hlt2 : (k : Int) < (ys.length : Int) := by omega
        by_cases he : xs[k] = ys[k]
        · have hB : ((xs[k] : Int) != ys[k]) = false := by simp [he]
          go_wp2
          go_quiet (fail)
          go_wp2
          go_roundw
          case rel =>
            refine ⟨k + 1, by omega, by go_num, ⟨n + nq, by simp⟩, fun j hj => ?_⟩
            by_cases hjk : j < k
            · exact HP.out j hjk
            · have : j = k := by omega
              subst this
              rw [List.getElem?_eq_getElem hkl, List.getElem?_eq_getElem hkl2, he]
          case measure => simp [intOf]; omega
        · have hB : ((xs[k] : Int) != ys[k]) = true := by simp [he]
          have hne : decide (xs = ys) = false := by
            simp only [decide_eq_false_iff_not]
            intro e
            subst e
            exact he rfl
          go_wp2
          go_quiet (fail)
          go_wp2
          go_ret
          exact ⟨by first | rfl | (rw [hne]; rfl), n + nq, by simp⟩
      · have hlt : ¬ (k : Int) < (xs.length : Int) := by omega
        have heq : decide (xs = ys) = true := by
          simp only [decide_eq_true_eq]
          apply List.ext_getElem?
          intro i
          by_cases hi : i < k
          · exact HP.out i hi
          · rw [List.getElem?_eq_none (by omega), List.getElem?_eq_none (by omega)]
        have HEQ := Lib.hid heq
        clear heq
        go_wp2
        go_ret
        exact ⟨by rw [HEQ.out]; rfl, _, rfl⟩
  · have hlen' : ((xs.length : Int) != (ys.length : Int)) = true := by simp; omega
    have hne : decide (xs = ys) = false := by
      simp only [decide_eq_false_iff_not]
      intro e
      exact hlen (by rw [e])
    rw [hne]
    go_enter Tryz.func26, Tryz.ntmps26
    go_wp2
    go_ret
    exact ⟨rfl, 0, rfl⟩

theorem info3 : (Tryz.prog.info? 3).map (fun i => (i.zero, i.size, i.bytes)) = some (some (.int .i64 0), 1, 8) := by kernel_rfl

/-- append of nil, whatever its spare says, to a row of the call's own. -/
theorem run_app_none {P : Program} {w : World} (base : Nat) (t ty e : TypeId) (i : TypeInfo) (size : Nat) (ht : P.underlying t = some (.slice e)) (hi : P.info? e = some i)
    (v : Value) (n : Nat) (xs : List Value) (hown : w.ownsRow base e size v n xs) (c : Nat) : (Builtin.append_ #[t, t] ty #[v, .slice none 0 c]).run P w = .ok v w := by
  rcases hown.2 with ⟨rfl, rfl⟩ | ⟨g, cap, cur, rfl, _, _, hnc, _⟩
  · simp [Builtin.append_, run_underlying ht, sizeOf, typeInfo, hi, Builtin.lenOf, Builtin.firstCells]
  · simp [Builtin.append_, run_underlying ht, sizeOf, typeInfo, hi, Builtin.lenOf, Builtin.firstCells, hnc, storeCells]

/-- append of integers to integers of the call's own. -/
theorem op_appI {w0 w : World} {o : Oper} {a : Act} {K : Act → World → Prop} {Q : Exit → Act → World → Prop} (s x : Operand)
    (ho : o.op = .call { callee := .builtin .append, args := #[s, x], argTypes := #[37, 37] })
    (v : Value) (A : Option Addr) (n c : Nat) (xs zs : List Int) (hs : a.eval s = v) (hx : a.eval x = .slice A n c) (hown : OwnI w0 v xs w) (hn : n = zs.length) (hu : IntsAt w A zs) (hlim : (xs.length + zs.length) * 8 ≤ 140737488355328)
    (h : ∀ v' w', OwnI w0 v' (xs ++ zs) w' → w.grownBy w' v.ownBlock → K (a.put o.dst v') w') : o.wp Tryz.prog a w K Q := by
  obtain ⟨i0, hi, hz0, hz1, hz2⟩ := info_parts info3
  subst hn
  have hfin : ∃ v' w', (Builtin.append_ #[37, 37] o.type #[v, .slice A zs.length c]).run Tryz.prog w = .ok v' w' ∧ OwnI w0 v' (xs ++ zs) w' ∧ w.grownBy w' v.ownBlock := by
    rcases A with _ | ad
    · have h0 : zs = [] := by
        rcases hu with h0 | ⟨b, off, e, _⟩
        · exact h0
        · cases e
      subst h0
      exact ⟨v, w, run_app_none w0.heap.size 37 o.type 3 i0 1 Tryz.underlying37 hi v _ _ hown.1 c, by simpa using hown, rfl, rfl, rfl, Nat.le_refl _, fun _ _ _ => rfl⟩
    · have hcells : ∀ j u, (zs.map (Value.int .i64))[j]? = some u → w.cell? (ad.add j) = some u := by
        intro j u hj
        rcases hu with h0 | ⟨b, off, e, hc⟩
        · subst h0; simp at hj
        · cases e
          have hjl : j < zs.length := by
            have := (List.getElem?_eq_some_iff.1 hj).1
            simpa using this
          have e : (⟨b, off, none⟩ : Addr).add j = ⟨b, off + j, none⟩ := by unfold Addr.add; split <;> simp_all
          rw [e, hc j hjl]
          simp [hjl] at hj
          simp [List.getD, hjl, hj]
      obtain ⟨v', w', hr, h2, h3, _, _⟩ := run_append_own_at (P := Tryz.prog) w w0.heap.size 37 o.type 3 i0 (.int .i64 0) 1 8 Tryz.underlying37 hi hz0 hz1 hz2 rfl (by decide) v xs.length _ hown.1 ad zs.length c (zs.map (Value.int .i64)) (by simp) hcells
        (by intro u hu; obtain ⟨z, _, rfl⟩ := List.mem_map.1 hu; rfl) (by unfold maxLen; omega) hlim hown.2.size
      exact ⟨v', w', hr, ⟨by rw [List.length_append, List.map_append]; exact h2, hown.2.grown h3 hown.2.size (fun k hk => (hown.1.lt k hk).1)⟩, h3⟩
  obtain ⟨v', w', hr, h2, h3⟩ := hfin
  unfold Oper.wp execOp
  simp only [ho, resolve, invoke, builtin, Sem.run_bind, Sem.run_pure, Result.andThen_ok, List.map_toArray, List.map_cons, List.map_nil, hs, hx, hr]
  exact h v' w' h2 h3

theorem wpList_appI {w0 w : World} {ops : Array Oper} {rest : List Oper} {o : Oper} {a : Act} {Q : Exit → Act → World → Prop} (hgd : o.guard = none) (s x : Operand)
    (ho : o.op = .call { callee := .builtin .append, args := #[s, x], argTypes := #[37, 37] })
    (v : Value) (A : Option Addr) (n c : Nat) (xs zs : List Int) (hs : a.eval s = v) (hx : a.eval x = .slice A n c) (hown : OwnI w0 v xs w) (hn : n = zs.length) (hu : IntsAt w A zs) (hlim : (xs.length + zs.length) * 8 ≤ 140737488355328)
    (h : ∀ v' w', OwnI w0 v' (xs ++ zs) w' → w.grownBy w' v.ownBlock → wpList Tryz.prog ops Q rest (a.put o.dst v') w') : wpList Tryz.prog ops Q (o :: rest) a w :=
  wpList_plain hgd fun _ hK => op_appI s x ho v A n c xs zs hs hx hown hn hu hlim fun v' w' h1 h2 => hK _ _ (h v' w' h1 h2)

theorem step_appI {w0 w : World} {ops : Array Oper} {o : Oper} {a : Act} {K : Act → World → Prop} {Q : Exit → Act → World → Prop} {E : Prop} (hgd : o.guard = none) (s x : Operand)
    (ho : o.op = .call { callee := .builtin .append, args := #[s, x], argTypes := #[37, 37] })
    (v : Value) (A : Option Addr) (n c : Nat) (xs zs : List Int) (hs : a.eval s = v) (hx : a.eval x = .slice A n c) (hown : OwnI w0 v xs w) (hn : n = zs.length) (hu : IntsAt w A zs) (hlim : (xs.length + zs.length) * 8 ≤ 140737488355328)
    (h : ∀ v' w', OwnI w0 v' (xs ++ zs) w' → w.grownBy w' v.ownBlock → K (a.put o.dst v') w') : if Region.wanted o (yielded ops a.tmps) = true then Oper.wp Tryz.prog o a w K Q else E := by
  have hw : Region.wanted o (yielded ops a.tmps) = true := by simp [Region.wanted, hgd]
  rw [if_pos hw]
  exact op_appI s x ho v A n c xs zs hs hx hown hn hu hlim h

theorem OwnI.made (w : World) : OwnI w (.slice (some ⟨w.heap.size, 0, none⟩) 0 0) [] (w.alloc (.cells #[] 3)) :=
  ⟨World.ownsRow_made w #[] 0 (Nat.le_refl _) (Nat.zero_le _) rfl, ints_below_alloc w _⟩

theorem OwnI.nil (w : World) : OwnI w (.slice none 0 0) [] w := ⟨World.ownsRow_nil _ _ _ _, Below.refl _ _⟩

theorem OwnI.fresh {w W : World} {H : Nat} (hb : Below w.heap.size w W) (h : W.heap.size = H) : OwnI w (.slice (some ⟨H, 0, none⟩) 0 0) [] (W.alloc (.cells #[] 3)) := by
  subst h
  exact ⟨World.ownsRow_made W #[] 0 hb.size (Nat.zero_le _) rfl, hb.alloc hb.size _⟩

theorem OwnI.alloc {w0 w : World} {v : Value} {l : List Int} (h : OwnI w0 v l w) (o : Obj) : OwnI w0 v l (w.alloc o) := ⟨h.1.alloc o, h.2.alloc h.2.size o⟩

theorem OwnI.drew {w0 w : World} {v : Value} {l : List Int} (h : OwnI w0 v l w) : OwnI w0 v l w.drew := ⟨h.1.drew, h.2.drew⟩

theorem ints_grown {w w' : World} {g : Nat} {zs : List Int} {row : Option Nat} (h : IntsAt w (some ⟨g, 0, none⟩) zs) (hg : w.grownBy w' row) (hne : row ≠ some g) : IntsAt w' (some ⟨g, 0, none⟩) zs := by
  rcases h with h | ⟨b, off, e, hc⟩
  · exact .inl h
  · cases e
    exact .inr ⟨_, _, rfl, fun i hi => cell_grown hg (hc i hi) hne⟩

theorem ints_newH (w : World) (zs : List Int) (t : TypeId) {H : Nat} (h : w.heap.size = H) : IntsAt (w.alloc (.cells (zs.map (Value.int .i64)).toArray t)).drew (some ⟨H, 0, none⟩) zs := by
  subst h
  exact ints_new w zs t

theorem ints_oldH (w : World) (zs : List Int) (t : TypeId) (o : Obj) : IntsAt ((w.alloc (.cells (zs.map (Value.int .i64)).toArray t)).alloc o).drew (some ⟨w.heap.size, 0, none⟩) zs :=
  IntsAt.below (ints_new w zs t) (below_dr (ints_below_alloc _ o) 1)

theorem ints_old {w w' : World} {g : Nat} {zs : List Int} (h : IntsAt w (some ⟨g, 0, none⟩) zs) (o : Obj) : IntsAt (w.alloc o) (some ⟨g, 0, none⟩) zs := h.below (ints_below_alloc w o)

/-- A slice of integers, its length within its capacity. -/
def CutI (w : World) (A : Option Addr) (n c : Nat) (l : List Int) : Prop := n = l.length ∧ IntsAt w A l ∧ n ≤ c ∧ c ≤ maxLen

def SliceI (w : World) (v : Value) (l : List Int) : Prop := ∃ A n c, v = .slice A n c ∧ CutI w A n c l

theorem CutI.below {w w' : World} {A : Option Addr} {n c : Nat} {l : List Int} (h : CutI w A n c l) (hb : Below w.heap.size w w') : CutI w' A n c l := ⟨h.1, h.2.1.below hb, h.2.2.1, h.2.2.2⟩

theorem SliceI.below {w w' : World} {v : Value} {l : List Int} (h : SliceI w v l) (hb : Below w.heap.size w w') : SliceI w' v l := by
  obtain ⟨A, n, c, e, h⟩ := h
  exact ⟨A, n, c, e, h.below hb⟩

theorem IntsAt.drewN {w : World} {A : Option Addr} {l : List Int} (h : IntsAt w A l) (q : Nat) : IntsAt (w.drewN q) A l := h

theorem CutI.drewN {w : World} {A : Option Addr} {n c : Nat} {l : List Int} (h : CutI w A n c l) (q : Nat) : CutI (w.drewN q) A n c l := h

theorem OwnI.sliceI {w0 w : World} {v : Value} {l : List Int} (h : OwnI w0 v l w) : SliceI w v l := by
  obtain ⟨a, c, hv, hb⟩ := h.slice
  refine ⟨a, _, c, hv, rfl, hb, ?_⟩
  rcases h.1.2 with ⟨h1, h0⟩ | ⟨g, cap, cur, h1, _, _, h2, h3, _⟩
  · rw [hv] at h1
    simp at h1
    obtain ⟨_, h4, h5⟩ := h1
    subst h5
    simp [h0]
  · rw [hv] at h1
    simp at h1
    obtain ⟨_, rfl⟩ := h1
    exact ⟨h2, h3⟩

theorem IntsAt.cell {w : World} {A : Option Addr} {l : List Int} (h : IntsAt w A l) {k : Nat} (hk : k < l.length) : ∃ b off, A = some ⟨b, off, none⟩ ∧ w.cell? ⟨b, off + k, none⟩ = some (.int .i64 l[k]) := by
  rcases h with h0 | ⟨b, off, e, hc⟩
  · rw [h0] at hk; simp at hk
  · exact ⟨b, off, e, by rw [hc k hk]; simp [List.getD, List.getElem?_eq_getElem hk]⟩

theorem IntsAt.take {w : World} {A : Option Addr} {l : List Int} (h : IntsAt w A l) (k : Nat) : IntsAt w A (l.take k) := by
  rcases h with h0 | ⟨b, off, e, hc⟩
  · left; rw [h0]; simp
  · refine .inr ⟨b, off, e, fun i hi => ?_⟩
    have hi2 : i < k ∧ i < l.length := by simp at hi; omega
    rw [hc i hi2.2]
    simp [List.getD, hi2.1]

theorem CutI.drop {w : World} {A : Option Addr} {n c : Nat} {l : List Int} (h : CutI w A n c l) {k : Nat} (hk : k ≤ n) : CutI w (if c = k then A else A.map (·.add k)) (n - k) (c - k) (l.drop k) := by
  obtain ⟨rfl, hb, hc, hm⟩ := h
  refine ⟨by simp, ?_, by omega, by unfold maxLen at *; omega⟩
  by_cases hr : l.drop k = []
  · exact .inl hr
  · have hrl : 0 < (l.drop k).length := List.length_pos_iff.2 hr
    rw [List.length_drop] at hrl
    rcases hb with h0 | ⟨b, off, rfl, hcell⟩
    · rw [h0] at hrl; simp at hrl
    · rw [if_neg (by omega)]
      refine .inr ⟨b, off + k, ?_, fun i hi => ?_⟩
      · show some ((⟨b, off, none⟩ : Addr).add _) = _
        unfold Addr.add
        by_cases h0 : k = 0 <;> simp [h0]
      · rw [List.length_drop] at hi
        rw [Nat.add_assoc, hcell _ (by omega)]
        simp [List.getD]

theorem put1_split {l : List Int} {n : Int} {k : Nat} (hk : k < l.length) (hlt : l[k] < n) (h : put1 l n = l.take k ++ put1 (l.drop k) n) : put1 l n = l.take (k + 1) ++ put1 (l.drop (k + 1)) n := by
  rw [h, List.drop_eq_getElem_cons hk, put1, if_pos hlt, List.take_succ_eq_append_getElem hk, List.append_assoc]
  rfl

theorem put1_there {l : List Int} {n : Int} {k : Nat} (hk : k < l.length) (he : l[k] = n) (h : put1 l n = l.take k ++ put1 (l.drop k) n) : put1 l n = l := by
  rw [h, List.drop_eq_getElem_cons hk, put1, if_neg (by omega), if_pos he, ← List.drop_eq_getElem_cons hk, List.take_append_drop]

theorem put1_end {l : List Int} {n : Int} {k : Nat} (hk : l.length ≤ k) (h : put1 l n = l.take k ++ put1 (l.drop k) n) : put1 l n = ([] ++ l.take k ++ [n]) ++ l.drop k := by
  rw [h, List.drop_of_length_le hk, put1]
  simp

theorem put1_mid {l : List Int} {n : Int} {k : Nat} (hk : k < l.length) (h1 : ¬ l[k] < n) (h2 : l[k] ≠ n) (h : put1 l n = l.take k ++ put1 (l.drop k) n) : put1 l n = ([] ++ l.take k ++ [n]) ++ l.drop k := by
  rw [h, List.drop_eq_getElem_cons hk, put1, if_neg h1, if_neg h2]
  simp

set_option maxHeartbeats 1000000 in
set_option maxRecDepth 100000 in
theorem put1_in {w : World} {A : Option Addr} {n c : Nat} {l : List Int} (h : CutI w A n c l) (x : Int) (hl : (n + 1) * 8 ≤ 140737488355328) :
    Calls Tryz.prog 32 #[.slice A n c, .int .i64 x] w fun e w' => ∃ v, e = .returned v ∧ SliceI w' v (put1 l x) ∧ Below w.heap.size w w' := by
  have hnc : n ≤ c := h.2.2.1
  have hcm : c ≤ 9223372036854775807 := h.2.2.2
  have hnl : n = l.length := h.1
  have HN := Lib.hid hnl
  have HA := Lib.hid h
  clear h hnl
  go_enter Tryz.func32, Tryz.ntmps32
  go_wp2_with fail
  go_loopw [5] (fun vi wr => ∃ k : Nat, k ≤ n ∧ vi = .int .i64 k ∧ w = wr ∧ Hid (put1 l x = l.take k ++ put1 (l.drop k) x)) (fun vi _ => n - (intOf vi).toNat)
  case atStart => exact ⟨0, Nat.zero_le _, rfl, rfl, (rfl : put1 l x = put1 l x)⟩
  case round =>
    obtain ⟨k, hk, rfl, rfl, HP⟩ := hrel
    have hk0 : (0 : Int) ≤ (k : Int) := by omega
    have hkn : (k : Int) ≤ (n : Int) := by omega
    have hkc : (k : Int) ≤ (c : Int) := by omega
    by_cases hkl : k < n
    · have hkl' : k < l.length := by have := HN.out; omega
      obtain ⟨b, off, rfl, hc⟩ := HA.out.2.1.cell hkl'
      have hlt : (k : Int) < (n : Int) := by omega
      generalize hy : l[k] = y at hc
      have HY := Lib.hid hy
      clear hy
      by_cases hyx : y < x
      · go_wp2
        go_roundw
        case rel => exact ⟨k + 1, by omega, by go_num, trivial, put1_split hkl' (by rw [HY.out]; exact hyx) HP.out⟩
        case measure => simp [intOf]; omega
      · by_cases hyx2 : y = x
        · subst hyx2
          have HE := Lib.hid (put1_there hkl' HY.out HP.out)
          go_wp2
          go_ret
          exact ⟨_, rfl, by rw [HE.out]; exact ⟨_, _, _, rfl, HA.out⟩, Below.refl _ _⟩
        · have hB : ((y : Int) == x) = false := by simpa using hyx2
          go_wp2
          have hd : IntsAt w (if c = k then some ⟨b, off, none⟩ else some ⟨b, off + k, none⟩) (l.drop k) := by
            have h1 := (HA.out.drop (k := k) (by omega)).2.1
            have e : (if c = k then (some ⟨b, off, none⟩ : Option Addr) else (some ⟨b, off, none⟩ : Option Addr).map (·.add k)) = (if c = k then some ⟨b, off, none⟩ else some ⟨b, off + k, none⟩) := by
              congr 1
              show some ((⟨b, off, none⟩ : Addr).add k) = _
              unfold Addr.add
              by_cases h0 : k = 0 <;> simp [h0]
            rw [e] at h1
            exact h1
          have ht := HA.out.2.1.take k
          have HT := Lib.hid ht
          have HD := Lib.hid hd
          have HE := Lib.hid (put1_mid hkl' (by rw [HY.out]; omega) (by rw [HY.out]; exact hyx2) HP.out)
          have htl : (l.take k).length = k := by simp; omega
          have HTL := Lib.hid htl
          have hdl : (l.drop k).length = n - k := by have := HN.out; simp; omega
          have HDL := Lib.hid hdl
          clear ht hd htl hdl
          go_region_held3 (fun W => Below w.heap.size w W)
            (first | exact (Below.refl _ _).drew | exact ((Below.refl _ _).alloc (Nat.le_refl _) _).drew | exact (((Below.refl _ _).alloc (Nat.le_refl _) _).alloc (by simp) _).drew | exact h6.2 | exact h5.2 | exact (h5.2.alloc h5.2.size _) | exact h4.2 | exact (h4.2.alloc h4.2.size _))
            ((first
              | (refine step_appI (w0 := w) (by rfl) (.tmp 33) (.tmp 36) (by rfl) _ (some ⟨b, off, none⟩) k _ [] (l.take k) (by rfl) (by rfl) (by first | exact (OwnI.fresh (Below.refl _ _) rfl).drew | exact ((OwnI.fresh (Below.refl _ _) rfl).alloc _).drew | exact (OwnI.fresh ((Below.refl _ _).alloc (Nat.le_refl _) _) (by simp)).drew) HTL.out.symm (HT.out.below (by first | exact ((Below.refl _ _).alloc (Nat.le_refl _) _).drew | exact (((Below.refl _ _).alloc (Nat.le_refl _) _).alloc (by simp) _).drew)) (by rw [HTL.out]; simp; omega) ?_; intro v4 w4 h4 hg4)
              | (refine step_appI (w0 := w) (by rfl) (.tmp 37) (.tmp 39) (by rfl) v4 _ 1 1 ([] ++ l.take k) [x] (by rfl) (by rfl) (by first | exact h4 | exact h4.alloc _) (by rfl) (by first | exact ints_new w4 [x] 3 | exact ints_grown (ints_newH _ [x] 3 (by simp)) hg4 (by first | (show (some w.heap.size : Option Nat) ≠ some (w.heap.size + 1); simp) | (show (some (w.heap.size + 1) : Option Nat) ≠ some w.heap.size; simp)) | exact ints_grown (ints_oldH _ [x] 3 _) hg4 (by first | (show (some w.heap.size : Option Nat) ≠ some (w.heap.size + 1); simp) | (show (some (w.heap.size + 1) : Option Nat) ≠ some w.heap.size; simp))) (by rw [List.nil_append, HTL.out]; simp; omega) ?_; intro v5 w5 h5 hg5)
              | (refine step_appI (w0 := w) (by rfl) (.tmp 40) (.tmp 43) (by rfl) v5 _ (n - k) (c - k) ([] ++ l.take k ++ [x]) (l.drop k) (by rfl) (by rfl) h5 HDL.out.symm (HD.out.below h5.2) (by rw [List.nil_append, List.length_append, HTL.out, HDL.out]; simp; omega) ?_; intro v6 w6 h6 hg6)))
          all_goals
            go_wp2
            go_ret
            exact ⟨_, rfl, by rw [HE.out]; exact h6.sliceI, h6.2⟩
    · have hlt : ¬ (k : Int) < (n : Int) := by omega
      obtain rfl : k = n := by omega
      have HE := Lib.hid (put1_end (by have := HN.out; omega) HP.out)
      rw [List.drop_of_length_le (by have := HN.out; omega)] at HE
      have HT := Lib.hid (HA.out.2.1.take k)
      have HTL : Hid ((l.take k).length = k) := by have := HN.out; show _ = _; simp; omega
      have HDL : Hid ((l.drop k).length = k - k) := by have := HN.out; show _ = _; simp; omega
      have HD : Hid (l.drop k = []) := by have := HN.out; exact List.drop_of_length_le (by omega)
      clear hk hkn
      go_wp2
      go_region_held3 (fun W => Below w.heap.size w W)
            (first | exact (Below.refl _ _).drew | exact ((Below.refl _ _).alloc (Nat.le_refl _) _).drew | exact (((Below.refl _ _).alloc (Nat.le_refl _) _).alloc (by simp) _).drew | exact h6.2 | exact h5.2 | exact (h5.2.alloc h5.2.size _) | exact h4.2 | exact (h4.2.alloc h4.2.size _))
            ((first
              | (refine step_appI (w0 := w) (by rfl) (.tmp 33) (.tmp 36) (by rfl) _ (A) k _ [] (l.take k) (by rfl) (by rfl) (by first | exact (OwnI.fresh (Below.refl _ _) rfl).drew | exact ((OwnI.fresh (Below.refl _ _) rfl).alloc _).drew | exact (OwnI.fresh ((Below.refl _ _).alloc (Nat.le_refl _) _) (by simp)).drew) HTL.out.symm (HT.out.below (by first | exact ((Below.refl _ _).alloc (Nat.le_refl _) _).drew | exact (((Below.refl _ _).alloc (Nat.le_refl _) _).alloc (by simp) _).drew)) (by rw [HTL.out]; simp; omega) ?_; intro v4 w4 h4 hg4)
              | (refine step_appI (w0 := w) (by rfl) (.tmp 37) (.tmp 39) (by rfl) v4 _ 1 1 ([] ++ l.take k) [x] (by rfl) (by rfl) (by first | exact h4 | exact h4.alloc _) (by rfl) (by first | exact ints_new w4 [x] 3 | exact ints_grown (ints_newH _ [x] 3 (by simp)) hg4 (by first | (show (some w.heap.size : Option Nat) ≠ some (w.heap.size + 1); simp) | (show (some (w.heap.size + 1) : Option Nat) ≠ some w.heap.size; simp)) | exact ints_grown (ints_oldH _ [x] 3 _) hg4 (by first | (show (some w.heap.size : Option Nat) ≠ some (w.heap.size + 1); simp) | (show (some (w.heap.size + 1) : Option Nat) ≠ some w.heap.size; simp))) (by rw [List.nil_append, HTL.out]; simp; omega) ?_; intro v5 w5 h5 hg5)
              | (refine step_appI (w0 := w) (by rfl) (.tmp 40) (.tmp 43) (by rfl) v5 _ _ _ ([] ++ l.take k ++ [x]) [] (by rfl) (by rfl) h5 (by simp) (.inl rfl) (by rw [List.nil_append, List.length_append, HTL.out]; simp; omega) ?_; intro v6 w6 h6 hg6)))
      all_goals
        go_wp2
        all_goals
          go_ret
          exact ⟨_, rfl, by rw [HE.out]; exact h6.sliceI, h6.2⟩

/-- Same, of two lists that are alike. -/
theorem same_eq {w : World} {A B : Option Addr} {na ca nb cb : Nat} {xs ys : List Int} (ha : CutI w A na ca xs) (hb : CutI w B nb cb ys) (h : xs = ys) :
    Calls Tryz.prog 26 #[.slice A na ca, .slice B nb cb] w fun e w' => e = .returned (.bool true) ∧ Below w.heap.size w w' := by
  obtain ⟨rfl, ia, ha1, ha2⟩ := ha
  obtain ⟨rfl, ib, hb1, hb2⟩ := hb
  exact (same_in ia ib ca cb (by unfold maxLen at *; omega) (by unfold maxLen at *; omega)).mono fun e w' ⟨he, n, hw⟩ => ⟨by rw [he, decide_eq_true h], by rw [hw]; exact below_dr (Below.refl _ _) n⟩

theorem CutI.len {w : World} {A : Option Addr} {n c : Nat} {l : List Int} (h : CutI w A n c l) {k : Nat} (hk : l.length ≤ k) : n ≤ k := by rw [h.1]; exact hk
end Go.Proofs.YtnplmembdfklcaaGreatDoor
