/-
  The solver: rows of numbers that come in; check, own. Helper text; the conditions are those typed.
-/
import Derived.Test.YtkeagjphddcjeaaSolP
import Derived.Test.YtkeagjphddcjeaaSatNorm
import Derived.Test.YtkeagjphddcjeaaShelf
import Derived.Sort.OwnSortedInts
import Derived.Sort.Grow
import Derived.Lib.OwnBridge
import Derived.Deep.LoopGhost
import Derived.Deep.Cut
import Derived.Deep.CutRange
import Derived.Deep.CutBlock
import Derived.IntWalk
namespace Go.Proofs.Ytkeagjphddcjeaa
set_option linter.unusedVariables false
set_option linter.unusedSimpArgs false
open Go.RowKit Go.Maps Go.Shelf Go.Sort Sat

/-- The slice with address a reads as the integers zs. -/
def IntsAt (w : World) (a : Option Addr) (zs : List Int) : Prop :=
  zs = [] ∨ ∃ b off, a = some ⟨b, off, none⟩ ∧ b < w.heap.size ∧ ∀ i, i < zs.length → w.cell? ⟨b, off + i, none⟩ = some (.int .i64 (zs.getD i 0))
def IntsV (w : World) (v : Value) (zs : List Int) : Prop := ∃ a c, v = .slice a zs.length c ∧ zs.length ≤ c ∧ IntsAt w a zs
theorem IntsV.below {w w' : World} {v : Value} {zs : List Int} (h : IntsV w v zs) (hb : Below w.heap.size w w') : IntsV w' v zs := by
  obtain ⟨a, c, e, hc, h⟩ := h
  refine ⟨a, c, e, hc, ?_⟩
  rcases h with h | ⟨b, off, rfl, hlt, hcell⟩
  · exact .inl h
  · exact .inr ⟨b, off, rfl, Nat.lt_of_lt_of_le hlt hb.size, fun i hi => cell_tr hb (hcell i hi)⟩
theorem IntsV.nil (w : World) : IntsV w (.slice none 0 0) [] := ⟨none, 0, rfl, Nat.le_refl _, .inl rfl⟩
theorem IntsV.own {w : World} {B : Nat} {v : Value} {zs : List Int} {k : Nat} (h : w.ownsRow B 3 1 v k (intsI zs)) (hk : k = zs.length) : IntsV w v zs := by
  subst hk
  rcases ownsRow_form h with ⟨rfl, h0⟩ | ⟨g, cap, rfl, h1, _⟩
  · have : zs = [] := List.eq_nil_of_length_eq_zero h0
    subst this
    exact IntsV.nil w
  · exact ⟨_, cap, rfl, h1, .inr ⟨g, 0, rfl, (h.lt g rfl).2, fun i hi => by
      rw [Nat.zero_add]
      exact ownsRow_cell h (by unfold intsI; simp [List.getD, List.getElem?_eq_getElem hi])⟩⟩
/-- Rows of rows. -/
def RowsV (w : World) (v : Value) (ls : List (List Int)) : Prop :=
  ∃ a c, ∃ f : Nat → Value, v = .slice a ls.length c ∧ ls.length ≤ c ∧ (ls = [] ∨ ∃ b off, a = some ⟨b, off, none⟩ ∧ b < w.heap.size ∧ ∀ i, i < ls.length → w.cell? ⟨b, off + i, none⟩ = some (f i)) ∧ ∀ i l, ls[i]? = some l → IntsV w (f i) l
theorem RowsV.below {w w' : World} {v : Value} {ls : List (List Int)} (h : RowsV w v ls) (hb : Below w.heap.size w w') : RowsV w' v ls := by
  obtain ⟨a, c, f, e, hc, h1, h2⟩ := h
  refine ⟨a, c, f, e, hc, ?_, fun i l hl => (h2 i l hl).below hb⟩
  rcases h1 with h1 | ⟨b, off, rfl, hlt, hcell⟩
  · exact .inl h1
  · exact .inr ⟨b, off, rfl, Nat.lt_of_lt_of_le hlt hb.size, fun i hi => cell_tr hb (hcell i hi)⟩

/-- v is a row of integers in memory made since w0, and of what was there nothing has turned. -/
def OwnI (w0 : World) (v : Value) (zs : List Int) (w : World) : Prop := w.ownsRow w0.heap.size 3 1 v zs.length (intsI zs) ∧ Below w0.heap.size w0 w

theorem clone_c {w : World} {v : Value} {zs : List Int} (h : IntsV w v zs) (hl : zs.length * 8 ≤ 140737488355328) :
    Calls Try.prog 28 #[v] w fun e w' => ∃ v, e = .returned v ∧ OwnI w v zs w' := by
  obtain ⟨a, cap, rfl, _, h⟩ := h
  rcases h with rfl | ⟨b, off, rfl, _, hcell⟩
  · cases a with
    | none =>
      exact (Any.slices_Clone_int_nil Try.layClone _ cap w).mono fun e w' ⟨he, hw⟩ => ⟨_, he, by subst hw; exact ⟨World.ownsRow_nil _ _ _ _, ⟨rfl, rfl, rfl, Nat.le_refl _, fun _ _ => rfl⟩⟩⟩
    | some a =>
      exact (Any.slices_Clone_int_zero Try.layClone a cap w).mono fun e w' ⟨v, he, ho, _, hb⟩ => ⟨v, he, ho, hb⟩
  · exact (Any.slices_Clone_int Try.layClone b off zs.length cap zs w (Nat.le_refl _) hl hcell).mono fun e w' ⟨v, he, ho, _, hb⟩ => ⟨v, he, by rw [List.take_length] at ho; exact ho, hb⟩
theorem sort_c {w : World} {B : Nat} {v : Value} {zs : List Int} (ho : w.ownsRow B 3 1 v zs.length (intsI zs)) (hl : zs.length < 4611686018427387904) :
    Calls Try.prog 42 #[v] w fun e w' => e = .returned (.tuple #[]) ∧ w'.ownsRow B 3 1 v zs.length (intsI (zs.mergeSort fun x y => decide (x ≤ y))) ∧ w.grownBy w' v.ownBlock := by
  have hlen : (zs.mergeSort fun x y => decide (x ≤ y)).length = zs.length := List.length_mergeSort zs
  rcases ho.2 with ⟨rfl, h0⟩ | ⟨g, cap, cur, hv, hbase, hg, h1, h2, h3, h4⟩
  · have hz := List.length_eq_zero_iff.1 h0
    subst hz
    exact (Any.slices_Sort_int_none Try.laySort none 0 w).mono fun e w' ⟨he, hw⟩ => ⟨he, by subst hw; rw [List.mergeSort_nil]; exact ⟨World.ownsRow_nil _ _ _ _, ⟨rfl, rfl, rfl, Nat.le_refl _, fun _ _ _ => rfl⟩⟩⟩
  · subst hv
    obtain ⟨g', cap', hv, _, hlt, _, _, _, hH⟩ := Lib.holds_of_ownsRow (enc := Value.int .i64) ho (by simp)
    simp only [Value.slice.injEq, Option.some.injEq, Addr.mk.injEq, true_and, and_true] at hv
    obtain ⟨rfl, rfl⟩ := hv
    refine (Any.slices_Sort_int Try.laySort g 0 cap zs w hH hlt hl).mono fun e w' ⟨he, n, os, hw⟩ => ⟨he, ?_⟩
    subst hw
    exact ⟨ownsRow_sortedI (n := n) (os := os) hlen hbase hg h1 h2 h3, grownBy_sortedI _⟩
theorem compact_c {w : World} {B : Nat} {v : Value} {zs : List Int} (ho : w.ownsRow B 3 1 v zs.length (intsI zs)) (hl : zs.length < 4611686018427387904) :
    Calls Try.prog 43 #[v] w fun e w' => ∃ v', e = .returned v' ∧ w'.ownsRow B 3 1 v' (Lib.compact zs).length (intsI (Lib.compact zs)) ∧ w.grownBy w' v.ownBlock ∧ v'.ownBlock = v.ownBlock := by
  have hle := Lib.compact_length_le zs
  rcases ho.2 with ⟨rfl, h0⟩ | ⟨g, cap, cur, hv, hbase, hg, h1, h2, h3, h4⟩
  · have hz := List.length_eq_zero_iff.1 h0
    subst hz
    exact (Any.slices_Compact_int_empty Try.layCompact none 0 w).mono fun e w' ⟨he, hw⟩ => ⟨_, he, by subst hw; exact ⟨World.ownsRow_nil _ _ _ _, ⟨rfl, rfl, rfl, Nat.le_refl _, fun _ _ _ => rfl⟩, rfl⟩⟩
  · subst hv
    obtain ⟨g', cap', hv, _, hlt, _, _, _, hH⟩ := Lib.holds_of_ownsRow (enc := Value.int .i64) ho (by simp)
    simp only [Value.slice.injEq, Option.some.injEq, Addr.mk.injEq, true_and, and_true] at hv
    obtain ⟨rfl, rfl⟩ := hv
    refine (Any.slices_Compact_int Try.layCompact g 0 cap zs w hH (by omega) h1).mono fun e w' ⟨he, q, hw⟩ => ⟨_, he, ?_⟩
    subst hw
    have hc := Lib.ownsRow_putRow (q := q) (k := (Lib.compact zs).length) (ys := Lib.compact zs ++ List.replicate (zs.length - (Lib.compact zs).length) 0) ho (by simp; omega) (by omega)
    rw [List.take_left] at hc
    refine ⟨hc, ⟨rfl, rfl, rfl, by simp [putRow, mapBlock, Sort.ahead], fun k hk hne => ?_⟩, rfl⟩
    have : g ≠ k := fun e => hne (by rw [e]; rfl)
    simp [putRow, mapBlock, Sort.ahead, Array.getElem?_modify, this]
theorem any_c {w : World} {v : Value} {zs : List Int} (h : IntsV w v zs) (hl : zs.length ≤ 9223372036854775807) (p : Int → Bool) (g : Nat) (lb : Array Value) (eg : ∀ args w, (callFunc g args).run Try.prog w = .ok (.enter g args) w) (hp : PredAt Try.prog g lb (Value.int .i64) p w) :
    Calls Try.prog 41 #[v, .func (.func g) #[] lb] w fun e w' => e = .returned (.bool (zs.any p)) ∧ ∃ q, w' = w.drewN q := by
  obtain ⟨a, cap, rfl, _, h⟩ := h
  rcases h with rfl | ⟨b, off, rfl, _, hcell⟩
  · exact (AnyE.slices_ContainsFunc_empty Try.layAny a cap _ w).mono fun e w' ⟨he, hw⟩ => ⟨he, 0, hw⟩
  · have := AnyE.slices_ContainsFunc Try.layAny (Value.int .i64) p g lb eg b off zs.length cap zs w hp (Nat.le_refl _) hl fun j hj => by rw [hcell j hj]; simp [List.getD, List.getElem?_eq_getElem hj, hj]
    rw [List.take_length] at this
    exact this
theorem has_c {w : World} {v : Value} {zs : List Int} (h : IntsV w v zs) (hl : zs.length ≤ 9223372036854775807) (x : Int) :
    Calls Try.prog 45 #[v, .int .i64 x] w fun e w' => e = .returned (.bool (zs.contains x)) ∧ w' = w := by
  obtain ⟨a, cap, rfl, _, h⟩ := h
  rcases h with rfl | ⟨b, off, rfl, _, hcell⟩
  · exact Any.slices_Contains_int_empty Try.layHas a cap x w
  · have := Any.slices_Contains_int Try.layHas b off zs.length cap zs x w (Nat.le_refl _) hl hcell
    rw [List.take_length] at this
    exact this

/-- A number that is no literal. -/
def oddB (n : Nat) (x : Int) : Bool := decide (x = 0) || decide ((n : Int) < x) || decide (x < -(n : Int))
theorem oddB_ok {n : Nat} {x : Int} : oddB n x = false ↔ Lok n x := by
  unfold oddB Lok
  simp only [Bool.or_eq_false_iff, decide_eq_false_iff_not]
  omega
theorem enters40 : ∀ args w, (callFunc 40 args).run Try.prog w = .ok (.enter 40 args) w := fun args w => by kernel_rfl
theorem enters44 : ∀ args w, (callFunc 44 args).run Try.prog w = .ok (.enter 44 args) w := fun args w => by kernel_rfl
set_option maxHeartbeats 1000000 in
theorem odd_at {w : World} {b n : Nat} (hn : n ≤ 400) (hb : b < w.heap.size) (hc : w.cell? ⟨b, 0, none⟩ = some (.int .i64 (n : Int))) : PredAt Try.prog 40 #[.pointer (some ⟨b, 0, none⟩)] (Value.int .i64) (oddB n) w := fun W x hB => by
  have hc' : W.cell? ⟨b, 0, none⟩ = some (.int .i64 (n : Int)) := (hB.cell (p := ⟨b, 0, none⟩) hb).trans hc
  clear hc hB hb
  unfold FnGives
  obtain ⟨r, hr⟩ : ∃ r, oddB n x = r := ⟨_, rfl⟩
  rw [hr]
  unfold oddB at hr
  by_cases h1 : x = 0
  · have e1 : (x == 0) = true := by simp [h1]
    have e2 : r = true := by rw [← hr, h1]; simp
    subst e2
    clear hr h1
    go_enter Try.func40, Try.ntmps40
    go_wp2_with fail
    go_ret
    exact ⟨rfl, 0, rfl⟩
  · have e1 : (x == 0) = false := by simp [h1]
    by_cases h2 : (n : Int) < x
    · have e2 : r = true := by rw [← hr]; simp [h2]
      subst e2
      clear hr h1
      go_enter Try.func40, Try.ntmps40
      go_wp2_with fail
      go_ret
      exact ⟨rfl, 0, rfl⟩
    · by_cases h3 : x < -(n : Int)
      · have e2 : r = true := by rw [← hr]; simp [h3]
        subst e2
        clear hr h1
        go_enter Try.func40, Try.ntmps40
        go_wp2_with fail
        go_ret
        exact ⟨rfl, 0, rfl⟩
      · have e2 : r = false := by rw [← hr]; simp [h1, h2, h3]
        subst e2
        clear hr h1
        go_enter Try.func40, Try.ntmps40
        go_wp2_with fail
        go_ret
        exact ⟨rfl, 0, rfl⟩
/-- A literal whose other one is there. -/
def bothB (zs : List Int) (x : Int) : Bool := decide (x < 0) && zs.contains (wrap64 (-x))
set_option maxHeartbeats 1000000 in
theorem both_at {w : World} {b : Nat} {v : Value} {zs : List Int} (hb : b < w.heap.size) (hc : w.cell? ⟨b, 0, none⟩ = some v) (hv : IntsV w v zs) (hl : zs.length ≤ 9223372036854775807) : PredAt Try.prog 44 #[.pointer (some ⟨b, 0, none⟩)] (Value.int .i64) (bothB zs) w := fun W x hB => by
  have hc' : W.cell? ⟨b, 0, none⟩ = some v := (hB.cell (p := ⟨b, 0, none⟩) hb).trans hc
  have HH := Lib.hid (has_c (hv.below hB) hl)
  clear hc hB hb hv
  unfold FnGives
  obtain ⟨r, hr⟩ : ∃ r, bothB zs x = r := ⟨_, rfl⟩
  rw [hr]
  unfold bothB at hr
  by_cases h1 : x < 0
  · have e2 : zs.contains (wrap64 (-x)) = r := by rw [← hr]; simp [h1]
    have HR := Lib.hid e2
    clear hr e2
    go_enter Try.func44, Try.ntmps44
    go_wp2_with (go_at_call 45; refine (HH.out _).mono ?_; rintro e w' ⟨rfl, rfl⟩; rw [HR.out])
    go_ret
    exact ⟨rfl, 0, rfl⟩
  · have e2 : r = false := by rw [← hr]; simp [h1]
    subst e2
    clear hr
    go_enter Try.func44, Try.ntmps44
    go_wp2_with fail
    go_ret
    exact ⟨rfl, 0, rfl⟩

theorem norm_len (zs : List Int) : (norm zs).length ≤ zs.length := by
  unfold norm
  have := Lib.compact_length_le (zs.mergeSort fun x y => decide (x ≤ y))
  rw [List.length_mergeSort] at this
  exact this
theorem ownsRow_base {w : World} {B B' : Nat} {e : TypeId} {k : Nat} {v : Value} {n : Nat} {xs : List Value} (h : w.ownsRow B e k v n xs) (hB : B' ≤ B) : w.ownsRow B' e k v n xs := by
  refine ⟨h.1, ?_⟩
  rcases h.2 with h1 | ⟨g, cap, cur, h1, h2, h3⟩
  · exact .inl h1
  · exact .inr ⟨g, cap, cur, h1, Nat.le_trans hB h2, h3⟩
theorem OwnI.to {w0 w w' : World} {v : Value} {zs : List Int} (h : OwnI w0 v zs w) (hb : Below w.heap.size w w') : OwnI w0 v zs w' := ⟨ownsRow_below h.1 hb, h.2.trans (below_to hb h.2.size)⟩

set_option maxHeartbeats 2000000 in
theorem own_c {w : World} {v : Value} {zs : List Int} (h : IntsV w v zs) (hl : zs.length * 8 ≤ 140737488355328) :
    Calls Try.prog 29 #[v] w fun e w' => ∃ v', e = .returned (.tuple #[v', .bool (!(norm zs).any (bothB (norm zs)))]) ∧ OwnI w v' (norm zs) w' := by
  obtain ⟨a, c, rfl, hc, hi⟩ := h
  have h : IntsV w (.slice a zs.length c) zs := ⟨a, c, rfl, hc, hi⟩
  have hl2 : zs.length < 4611686018427387904 := by omega
  obtain ⟨n, hn⟩ : ∃ n, zs.length = n := ⟨_, rfl⟩
  obtain ⟨R, hR⟩ : ∃ R : Ending → World → Prop, (fun e w' => ∃ v', e = .returned (.tuple #[v', .bool (!(norm zs).any (bothB (norm zs)))]) ∧ OwnI w v' (norm zs) w') = R := ⟨_, rfl⟩
  rw [hR]
  replace hR := Lib.hid hR
  obtain ⟨w0, hw0⟩ : ∃ w0, w.alloc (.cells #[.slice a n c] 24) = w0 := ⟨_, rfl⟩
  have HW0 : Hid (Below w.heap.size w w0 ∧ BoxN w0 w.heap.size [.slice a n c] 24 ∧ w0.heap.size = w.heap.size + 1) := by
    rw [← hw0]
    exact ⟨below1 _ _, boxN_alloc _ _ _, by simp⟩
  have HCL := Lib.hid (clone_c (h.below HW0.out.1) hl)
  rw [hn] at HCL ⊢
  have c0 := HW0.out.2.1.cell (j := 0) rfl
  have f0 := HW0.out.2.1.frozen 0
  have HN := Lib.hid hn
  clear h hc hi hn
  go_enter Try.func29, Try.ntmps29
  go_wp2_with fail
  refine HCL.out.mono ?_
  rintro e w1 ⟨v1, rfl, ho1⟩
  obtain ⟨a1, k1, hv1⟩ := ownsRow_slice ho1.1
  subst hv1
  rw [show zs.length = n from HN.out] at ho1 ⊢
  have HO1 : Hid (w1.ownsRow w0.heap.size 3 1 (.slice a1 n k1) n (intsI zs) ∧ Below w0.heap.size w0 w1) := by
    have h1 := ho1
    unfold OwnI at h1
    rw [show zs.length = n from HN.out] at h1
    exact h1
  clear ho1
  have c1 := cell_tr HO1.out.2 c0
  have f1 := (BoxN.below HW0.out.2.1 HO1.out.2).frozen 0
  go_upto_region 2 with fail
  obtain ⟨w2, hw2⟩ : ∃ w2, w1.setCell ⟨w.heap.size, 0, none⟩ (.slice a1 n k1) = w2 := ⟨_, rfl⟩
  have hne : ∀ g, (Value.slice a1 n k1).ownBlock = some g → g ≠ w.heap.size := fun g hg => by
    have h1 := (HO1.out.1.lt g hg).1
    have h2 := HW0.out.2.2
    omega
  have HO2 : Hid (w2.ownsRow w0.heap.size 3 1 (.slice a1 n k1) n (intsI zs) ∧ Below w.heap.size w w2 ∧ BoxN w2 w.heap.size [.slice a1 n k1] 24) := by
    rw [← hw2]
    have hb := HW0.out.1.trans (below_to HO1.out.2 HW0.out.1.size)
    exact ⟨ownsRow_to HO1.out.1 fun g hg => set_other _ (hne g hg), below_sc hb (Nat.le_refl _) 0 _, (BoxN.below HW0.out.2.1 HO1.out.2).set 0 _⟩
  rw [hw2]
  clear hw2 c1 f1 c0 f0 HCL
  have HSO : Hid (Calls Try.prog 42 #[.slice a1 n k1] w2 fun e w' => e = .returned (.tuple #[]) ∧ w'.ownsRow w0.heap.size 3 1 (.slice a1 n k1) zs.length (intsI (zs.mergeSort fun x y => decide (x ≤ y))) ∧ w2.grownBy w' (Value.slice a1 n k1).ownBlock) :=
    sort_c (by rw [show zs.length = n from HN.out]; exact HO2.out.1) hl2
  have c2 := HO2.out.2.2.cell (j := 0) rfl
  have HNE := Lib.hid hne
  clear hne
  go_wp2_with fail
  refine HSO.out.mono ?_
  rintro e w3 ⟨rfl, ho3, hg3⟩
  have hbox3 := HO2.out.2.2.to (hg3.block _ HO2.out.2.2.lt (fun e => HNE.out _ e.symm rfl))
  have hbel3 : Below w.heap.size w w3 := HO2.out.2.1.grown hg3 HO2.out.2.1.size (fun j hj => Nat.le_trans HW0.out.1.size (HO1.out.1.lt j hj).1)
  have HSL := List.length_mergeSort zs (le := fun x y => decide (x ≤ y))
  have HCO : Hid (Calls Try.prog 43 #[.slice a1 n k1] w3 fun e w' => ∃ v', e = .returned v' ∧ w'.ownsRow w0.heap.size 3 1 v' (norm zs).length (intsI (norm zs)) ∧ w3.grownBy w' (Value.slice a1 n k1).ownBlock ∧ v'.ownBlock = (Value.slice a1 n k1).ownBlock) :=
    compact_c (zs := zs.mergeSort fun x y => decide (x ≤ y)) (by rw [HSL]; exact ho3) (by rw [HSL]; exact hl2)
  have HO3 : Hid (Below w.heap.size w w3 ∧ BoxN w3 w.heap.size [.slice a1 n k1] 24) := ⟨hbel3, hbox3⟩
  have c3 := hbox3.cell (j := 0) rfl
  have f3 := hbox3.frozen 0
  clear ho3 hg3 hbox3 hbel3 HSL HSO c2
  go_wp2_with fail
  refine HCO.out.mono ?_
  rintro e w4 ⟨v4, rfl, ho4, hg4, hv4⟩
  obtain ⟨a4, k4, hv⟩ := ownsRow_slice ho4
  subst hv
  obtain ⟨m, hm⟩ : ∃ m, (norm zs).length = m := ⟨_, rfl⟩
  rw [hm] at ho4 hv4 ⊢
  have hbox4 := HO3.out.2.to (hg4.block _ HO3.out.2.lt (fun e => HNE.out _ e.symm rfl))
  have hbel4 : Below w.heap.size w w4 := HO3.out.1.grown hg4 HO3.out.1.size (fun j hj => Nat.le_trans HW0.out.1.size (HO1.out.1.lt j hj).1)
  have HO4 : Hid (Below w.heap.size w w4 ∧ BoxN w4 w.heap.size [.slice a1 n k1] 24 ∧ w4.ownsRow w0.heap.size 3 1 (.slice a4 m k4) m (intsI (norm zs)) ∧ ∀ g, (Value.slice a4 m k4).ownBlock = some g → g ≠ w.heap.size) := ⟨hbel4, hbox4, ho4, fun g hg => HNE.out g (by rw [← hv4]; exact hg)⟩
  have HM := Lib.hid hm
  have c4 := hbox4.cell (j := 0) rfl
  have f4 := hbox4.frozen 0
  clear c3 f3 ho4 hg4 hv4 hbox4 hbel4 hm
  go_upto_region 4 with fail
  obtain ⟨w5, hw5⟩ : ∃ w5, w4.setCell ⟨w.heap.size, 0, none⟩ (.slice a4 m k4) = w5 := ⟨_, rfl⟩
  have HO5 : Hid (Below w.heap.size w w5 ∧ BoxN w5 w.heap.size [.slice a4 m k4] 24 ∧ w5.ownsRow w0.heap.size 3 1 (.slice a4 m k4) m (intsI (norm zs))) := by
    rw [← hw5]
    exact ⟨below_sc HO4.out.1 (Nat.le_refl _) 0 _, HO4.out.2.1.set 0 _, ownsRow_to HO4.out.2.2.1 fun g hg => set_other _ (HO4.out.2.2.2 g hg)⟩
  rw [hw5]
  clear hw5 c4 f4
  have c5 := HO5.out.2.1.cell (j := 0) rfl
  have hml : m ≤ 9223372036854775807 := by
    have h1 := norm_len zs
    have h2 : (norm zs).length = m := HM.out
    omega
  have hml2 : (norm zs).length ≤ 9223372036854775807 := by rw [show (norm zs).length = m from HM.out]; exact hml
  have HIV : Hid (IntsV w5 (.slice a4 m k4) (norm zs)) := IntsV.own HO5.out.2.2 (show (norm zs).length = m from HM.out).symm
  have HAN : Hid (∀ W, Below w5.heap.size w5 W → Calls Try.prog 41 #[.slice a4 m k4, .func (.func 44) #[] #[.pointer (some ⟨w.heap.size, 0, none⟩)]] W fun e w' => e = .returned (.bool ((norm zs).any (bothB (norm zs)))) ∧ ∃ q, w' = W.drewN q) := fun W hW =>
    any_c (HIV.out.below hW) hml2 (bothB (norm zs)) 44 _ enters44 (both_at (Nat.lt_of_lt_of_le HO5.out.2.1.lt hW.size) (cell_tr hW c5) (HIV.out.below hW) hml2)
  have hml3 := Lib.hid hml2
  clear hml2
  obtain ⟨r, hr⟩ : ∃ r, (norm zs).any (bothB (norm zs)) = r := ⟨_, rfl⟩
  rw [hr] at HAN
  replace hr := Lib.hid hr
  go_quiet ((go_at_call 41; exact Calls.quiet_of (HAN.out _ (below_dr (Below.refl _ _) _))))
  go_wp2_with fail
  have HF : Hid (R (.returned (.tuple #[.slice a4 m k4, .bool (!r)])) (w5.drewN nq)) := by
    rw [← hR.out]
    refine ⟨_, by rw [← hr.out], ?_, below_dr HO5.out.1 nq⟩
    rw [show (norm zs).length = m from HM.out]
    exact ownsRow_to (ownsRow_base HO5.out.2.2 HW0.out.1.size) fun _ _ => rfl
  first
    | exact HF.out
    | exact bodyPost_ret (v := .tuple #[.slice a4 m k4, .bool (!r)]) (by simp [results, Try.results29, go_sem]) rfl HF.out

/-- What check answers: of a number of variables that is too great or below nought. -/
theorem check_many {n : Int} (hn : n < 0 ∨ 400 < n) {vl vp : Value} (w : World) :
    Calls Try.prog 27 #[.int .i64 n, vl, vp] w fun e w' => e = .returned (.int .i64 171) ∧ Below w.heap.size w w' := by
  obtain ⟨w0, hw0⟩ : ∃ w0, w.alloc (.cells #[.int .i64 n] 3) = w0 := ⟨_, rfl⟩
  have HW0 : Hid (Below w.heap.size w w0 ∧ BoxN w0 w.heap.size [.int .i64 n] 3) := by
    rw [← hw0]
    exact ⟨below1 _ _, boxN_alloc _ _ _⟩
  have c0 := HW0.out.2.cell (j := 0) rfl
  rcases hn with h | h
  · go_enter Try.func27, Try.ntmps27
    go_wp2_with fail
    go_ret
    exact ⟨rfl, HW0.out.1⟩
  · have h2 : ¬ n < 0 := by omega
    go_enter Try.func27, Try.ntmps27
    go_wp2_with fail
    go_ret
    exact ⟨rfl, HW0.out.1⟩
def litsB (n : Nat) (ls : List (List Int)) (pr : List Int) : Bool := !(ls.any fun c => c.any (oddB n)) && !pr.any (oddB n)
theorem litsB_ok {n : Nat} {ls : List (List Int)} {pr : List Int} : litsB n ls pr = true ↔ (∀ c ∈ ls, ∀ x ∈ c, Lok n x) ∧ ∀ x ∈ pr, Lok n x := by
  unfold litsB
  simp only [Bool.and_eq_true, Bool.not_eq_true', List.any_eq_false, oddB_ok]
  constructor
  · rintro ⟨h1, h2⟩
    refine ⟨fun c hc x hx => ?_, fun x hx => oddB_ok.1 (by simpa using h2 x hx)⟩
    have h3 := h1 c hc
    simp only [List.any_eq_true, not_exists, not_and] at h3
    exact oddB_ok.1 (by simpa using h3 x hx)
  · rintro ⟨h1, h2⟩
    refine ⟨fun c hc => ?_, fun x hx => by rw [oddB_ok.2 (h2 x hx)]; simp⟩
    simp only [List.any_eq_true, not_exists, not_and]
    intro x hx
    rw [oddB_ok.2 (h1 c hc x hx)]
    simp
def CheckPost (w : World) (n : Nat) (ls : List (List Int)) (pr : List Int) (e : Ending) (w' : World) : Prop := e = .returned (.int .i64 (if litsB n ls pr = true then 0 else 170)) ∧ Below w.heap.size w w'
set_option maxHeartbeats 2000000 in
theorem check_c {n : Nat} (hn : n ≤ 400) {vl vp : Value} {ls : List (List Int)} {pr : List Int} {w : World} (hl : RowsV w vl ls) (hp : IntsV w vp pr) (hls : ls.length ≤ 4611686018427387904) (hlb : ∀ c ∈ ls, c.length ≤ 9223372036854775807) (hpb : pr.length ≤ 9223372036854775807) :
    Calls Try.prog 27 #[.int .i64 (n : Int), vl, vp] w (CheckPost w n ls pr) := by
  obtain ⟨R, hR⟩ : ∃ R : Ending → World → Prop, CheckPost w n ls pr = R := ⟨_, rfl⟩
  rw [hR]
  replace hR := Lib.hid hR
  obtain ⟨w0, hw0⟩ : ∃ w0, w.alloc (.cells #[.int .i64 (n : Int)] 3) = w0 := ⟨_, rfl⟩
  obtain ⟨b0, hb0⟩ : ∃ b0, w.heap.size = b0 := ⟨_, rfl⟩
  have HW0 : Hid (Below w.heap.size w w0 ∧ BoxN w0 b0 [.int .i64 (n : Int)] 3) := by
    rw [← hw0, ← hb0]
    exact ⟨below1 _ _, boxN_alloc _ _ _⟩
  have c0 := HW0.out.2.cell (j := 0) rfl
  obtain ⟨al, cl, f, rfl, hcl, hcell, hrows⟩ := hl
  obtain ⟨L, hL⟩ : ∃ L, ls.length = L := ⟨_, rfl⟩
  have HLB := Lib.hid hlb
  have HPB := Lib.hid hpb
  have HROWS := Lib.hid hrows
  have HP := Lib.hid hp
  have hn1 : ¬ (n : Int) < 0 := by omega
  have hn2 : ¬ 400 < (n : Int) := by omega
  have hODD : Hid (∀ W, Below w0.heap.size w0 W → PredAt Try.prog 40 #[.pointer (some ⟨b0, 0, none⟩)] (Value.int .i64) (oddB n) W) := fun W hW => odd_at hn (Nat.lt_of_lt_of_le HW0.out.2.lt hW.size) (cell_tr hW c0)
  have HCELL : Hid (∀ i, i < L → ∃ b off, al = some ⟨b, off, none⟩ ∧ b < w.heap.size ∧ w.cell? ⟨b, off + i, none⟩ = some (f i)) := fun i hi => by
    rcases hcell with h | ⟨b, off, h1, h2, h3⟩
    · rw [← hL, h] at hi; cases hi
    · exact ⟨b, off, h1, h2, h3 i (by rw [hL]; exact hi)⟩
  rw [hL] at hls hcl ⊢
  have HL := Lib.hid hL
  clear hlb hpb hrows hp hcell hL hn
  have hLb : (L : Int) ≤ 4611686018427387904 := by omega
  go_enter Try.func27, Try.ntmps27
  go_upto_region 1 with fail
  try rw [show w.heap.size = b0 from hb0]
  have HB0 := Lib.hid hb0
  clear hb0
  try rw [hw0]
  clear hw0
  go_wp2_with fail
  go_loopg [19] L (fun gk v19 wx => ∃ i : Nat, v19 = .int .i64 (i : Int) ∧ i ≤ L ∧ L ≤ i + gk ∧ Hid ((∀ j c, j < i → ls[j]? = some c → c.any (oddB n) = false) ∧ Below w0.heap.size w0 wx))
  case atStart => exact ⟨0, rfl, Nat.zero_le _, by omega, fun j c h => absurd h (Nat.not_lt_zero _), Below.refl _ _⟩
  case round =>
    obtain ⟨i, rfl, hiL, hgi, HI⟩ := hrel
    by_cases hi : i < L
    · have hi1 : (i : Int) < (L : Int) := by omega
      obtain ⟨b, off, hal, hbl, hcel⟩ := HCELL.out i hi
      have hil : i < ls.length := by rw [show ls.length = L from HL.out]; exact hi
      obtain ⟨c, hc⟩ : ∃ c, ls[i]? = some c := ⟨_, List.getElem?_eq_getElem hil⟩
      have hbw := HW0.out.1.trans (below_to HI.out.2 HW0.out.1.size)
      have c1 := cell_tr hbw hcel
      obtain ⟨ac, cc, hfi, hcc, hia⟩ := (HROWS.out i c hc).below hbw
      have hiv : IntsV wr (f i) c := ⟨ac, cc, hfi, hcc, hia⟩
      have HAN := Lib.hid (any_c hiv (HLB.out c (List.mem_of_getElem? hc)) (oddB n) 40 _ enters40 (hODD.out wr HI.out.2))
      subst hal
      rw [hfi] at c1 HAN
      obtain ⟨cn, hcn⟩ : ∃ cn, c.length = cn := ⟨_, rfl⟩
      rw [hcn] at c1 HAN
      have HC := Lib.hid hc
      clear hcel hil hc hbw hfi hcc hia hiv hcn hbl
      by_cases ha : c.any (oddB n) = true
      · rw [ha] at HAN
        have HF : Hid (∀ q, R (.returned (.int .i64 170)) (wr.drewN q)) := fun q => by
          rw [← hR.out]
          refine ⟨?_, below_dr (HW0.out.1.trans (below_to HI.out.2 HW0.out.1.size)) q⟩
          rw [if_neg]
          intro h
          have h1 := (litsB_ok.1 h).1 c (List.mem_of_getElem? HC.out)
          obtain ⟨x, hx, hx2⟩ := List.any_eq_true.1 ha
          rw [oddB_ok.2 (h1 x hx)] at hx2
          cases hx2
        replace ha := Lib.hid ha
        go_wp2_with (go_at_call 41; refine HAN.out.mono ?_; rintro e w1 ⟨rfl, q, rfl⟩)
        exact HF.out q
      · have haf : c.any (oddB n) = false := by simpa using ha
        rw [haf] at HAN
        have HN : Hid (∀ j c, j < i + 1 → ls[j]? = some c → c.any (oddB n) = false) := fun j c' hj hc' => by
          by_cases e : j = i
          · subst e
            have h1 := HC.out
            rw [h1] at hc'
            cases hc'
            exact haf
          · exact HI.out.1 j c' (by omega) hc'
        clear ha haf
        go_wp2_with (go_at_call 41; refine HAN.out.mono ?_; rintro e w1 ⟨rfl, q, rfl⟩)
        go_roundg (gk - 1)
        case measure => omega
        case rel => exact ⟨i + 1, by go_num, by omega, by omega, HN.out, below_dr HI.out.2 q⟩
    · have HALL : Hid (ls.any (fun c => c.any (oddB n)) = false) := by
        show ls.any (fun c => c.any (oddB n)) = false
        rw [List.any_eq_false]
        intro c hc
        obtain ⟨j, hj⟩ := List.mem_iff_getElem?.1 hc
        have h1 := HI.out.1 j c (by
          have h2 := (List.getElem?_eq_some_iff.1 hj).1
          rw [show ls.length = L from HL.out] at h2
          omega) hj
        rw [h1]
        simp
      have hbw := HW0.out.1.trans (below_to HI.out.2 HW0.out.1.size)
      have HAN := Lib.hid (any_c (HP.out.below hbw) HPB.out (oddB n) 40 _ enters40 (hODD.out wr HI.out.2))
      have HF : Hid (∀ q, R (.returned (.int .i64 (if pr.any (oddB n) = true then 170 else 0))) (wr.drewN q)) := fun q => by
        rw [← hR.out]
        refine ⟨?_, below_dr hbw q⟩
        unfold litsB
        rw [show ls.any (fun c => c.any (oddB n)) = false from HALL.out]
        cases pr.any (oddB n) <;> rfl
      clear hbw
      by_cases ha : pr.any (oddB n) = true
      · rw [ha] at HAN
        rw [ha] at HF
        replace ha := Lib.hid ha
        go_wp2_with (go_at_call 41; refine HAN.out.mono ?_; rintro e w1 ⟨rfl, q, rfl⟩)
        exact HF.out q
      · have haf : pr.any (oddB n) = false := by simpa using ha
        rw [haf] at HAN HF
        clear ha haf
        go_wp2_with (go_at_call 41; refine HAN.out.mono ?_; rintro e w1 ⟨rfl, q, rfl⟩)
        exact HF.out q
end Go.Proofs.Ytkeagjphddcjeaa
