/-
  Lists of texts in memory; the document's Put of texts. Helper text; the conditions are those typed.
-/
import Derived.Test.YtnplmembdfklcaaGreatDoorIntsR
import Derived.Test.YtnplmembdfklcaaGreatDoorShelf2
import Derived.Sort.Walk0
import Derived.Sort.OwnSorted
namespace Go.Proofs.YtnplmembdfklcaaGreatDoor
set_option linter.unusedVariables false
set_option linter.unusedSimpArgs false
open Go.RowKit Go.Maps Go.Shelf Go.Sort

/-! ### order -/
theorem sl_irr (a : List UInt8) : ¬ a < a := List.lt_irrefl a
theorem sl_tr {a b c : List UInt8} (h : a < b) (k : b < c) : a < c := List.lt_trans h k
theorem sl_tri (a b : List UInt8) : a < b ∨ a = b ∨ b < a := by
  by_cases h : a < b
  · exact .inl h
  · by_cases k : b < a
    · exact .inr (.inr k)
    · exact .inr (.inl (List.le_antisymm k h))

/-- A list of texts that rises, each text once. -/
def RisingS (l : List ByteArray) : Prop := l.Pairwise fun a b => bs a < bs b

theorem RisingS.tail {x : ByteArray} {l : List ByteArray} (h : RisingS (x :: l)) : RisingS l := (List.pairwise_cons.1 h).2
theorem RisingS.head {x : ByteArray} {l : List ByteArray} (h : RisingS (x :: l)) : ∀ y ∈ l, bs x < bs y := (List.pairwise_cons.1 h).1
theorem RisingS.cons {x : ByteArray} {l : List ByteArray} (h : RisingS l) (hx : ∀ y ∈ l, bs x < bs y) : RisingS (x :: l) := List.pairwise_cons.2 ⟨hx, h⟩
theorem RisingS.nil : RisingS [] := List.Pairwise.nil

theorem risingS_ext : ∀ {l m : List ByteArray}, RisingS l → RisingS m → (∀ x, x ∈ l ↔ x ∈ m) → l = m
  | [], [], _, _, _ => rfl
  | [], y :: m, _, _, h => by have := (h y).2 (by simp); cases this
  | x :: l, [], _, _, h => by have := (h x).1 (by simp); cases this
  | x :: l, y :: m, hl, hm, h => by
    have hxy : x = y := by
      have h1 := (h x).1 (by simp)
      have h2 := (h y).2 (by simp)
      rcases List.mem_cons.1 h1 with e | h1
      · exact e
      rcases List.mem_cons.1 h2 with e | h2
      · exact e.symm
      exact absurd (sl_tr (hl.head y h2) (hm.head x h1)) (sl_irr _)
    subst hxy
    congr 1
    refine risingS_ext hl.tail hm.tail fun z => ?_
    constructor
    · intro hz
      rcases List.mem_cons.1 ((h z).1 (by simp [hz])) with e | h1
      · subst e; exact absurd (hl.head z hz) (sl_irr _)
      · exact h1
    · intro hz
      rcases List.mem_cons.1 ((h z).2 (by simp [hz])) with e | h1
      · subst e; exact absurd (hm.head z hz) (sl_irr _)
      · exact h1

/-! ### the document's -/
def putS : List ByteArray → ByteArray → List ByteArray
  | [], n => [n]
  | x :: l, n => if bs x < bs n then x :: putS l n else if x = n then x :: l else n :: x :: l

theorem mem_putS : ∀ {l : List ByteArray} {n m : ByteArray}, m ∈ putS l n ↔ m = n ∨ m ∈ l
  | [], n, m => by simp [putS]
  | x :: l, n, m => by
    unfold putS
    split
    · rw [List.mem_cons, mem_putS, List.mem_cons]
      constructor
      · rintro (h | h | h) <;> simp [h]
      · rintro (h | h | h) <;> simp [h]
    · split
      · rename_i h
        subst h
        simp
      · simp

theorem putS_rising : ∀ {l : List ByteArray} {n : ByteArray}, RisingS l → RisingS (putS l n)
  | [], n, _ => List.pairwise_singleton _ _
  | x :: l, n, h => by
    unfold putS
    split
    · rename_i hx
      refine (putS_rising h.tail).cons fun y hy => ?_
      rcases mem_putS.1 hy with rfl | hy
      · exact hx
      · exact h.head y hy
    · split
      · exact h
      · rename_i h1 h2
        have h3 : bs n < bs x := by
          rcases sl_tri (bs x) (bs n) with e | e | e
          · exact absurd e h1
          · exact absurd (bs_inj e) h2
          · exact e
        refine h.cons fun y hy => ?_
        rcases List.mem_cons.1 hy with rfl | hy
        · exact h3
        · exact sl_tr h3 (h.head y hy)

theorem putS_length (l : List ByteArray) (n : ByteArray) : (putS l n).length ≤ l.length + 1 := by
  induction l with
  | nil => simp [putS]
  | cons x l ih =>
    unfold putS
    split
    · simp only [List.length_cons]; omega
    · split <;> simp

/-- The slice with address a reads as the integers zs. -/
def TxtsAt (w : World) (a : Option Addr) (zs : List ByteArray) : Prop :=
  zs = [] ∨ ∃ b off, a = some ⟨b, off, none⟩ ∧ ∀ i, i < zs.length → w.cell? ⟨b, off + i, none⟩ = some (.string (zs.getD i ⟨#[]⟩))

/-- v is a slice of integers in memory made since w0, and of what was there nothing has turned. -/
def OwnS (w0 : World) (v : Value) (zs : List ByteArray) (w : World) : Prop := w.ownsRow w0.heap.size 9 1 v zs.length (zs.map (Value.string)) ∧ Below w0.heap.size w0 w

theorem OwnS.slice {w0 w : World} {v : Value} {zs : List ByteArray} (h : OwnS w0 v zs w) : ∃ a c, v = .slice a zs.length c ∧ TxtsAt w a zs := by
  obtain ⟨h, _⟩ := h
  rcases h.2 with ⟨rfl, h0⟩ | ⟨g, cap, cur, rfl, _⟩
  · exact ⟨none, 0, by rw [h0], .inl (List.length_eq_zero_iff.1 h0)⟩
  · refine ⟨_, _, rfl, .inr ⟨g, 0, rfl, fun i hi => ?_⟩⟩
    have := h.cellAt i (by omega)
    rw [Nat.zero_add, this]
    simp [List.getD, List.getElem?_eq_getElem hi]

theorem TxtsAt.below {w w' : World} {a : Option Addr} {zs : List ByteArray} (h : TxtsAt w a zs) (hc : Below w.heap.size w w') : TxtsAt w' a zs := by
  rcases h with h | ⟨b, off, rfl, hcell⟩
  · exact .inl h
  · exact .inr ⟨b, off, rfl, fun i hi => (World.cell?_of_block (w := w) (hc.block b (World.block_lt_of_cell? w _ (hcell i hi)))).trans (hcell i hi)⟩

theorem txts_new (w : World) (zs : List ByteArray) (t : TypeId) : TxtsAt (w.alloc (.cells (zs.map (Value.string)).toArray t)) (some ⟨w.heap.size, 0, none⟩) zs := by
  refine .inr ⟨_, _, rfl, fun i hi => ?_⟩
  have := cells_new w (zs.map (Value.string)) t i (.string (zs.getD i ⟨#[]⟩)) (by simp [List.getD, hi])
  rw [← this]
  unfold Addr.add
  split
  · rename_i h; subst h; rfl
  · rfl

theorem info9 : (Tryz.prog.info? 9).map (fun i => (i.zero, i.size, i.bytes)) = some (some (.string ⟨#[]⟩), 1, 16) := by kernel_rfl

/-- append of nil, whatever its spare says, to a row of the call's own. -/
theorem run_app_noneS {P : Program} {w : World} (base : Nat) (t ty e : TypeId) (i : TypeInfo) (size : Nat) (ht : P.underlying t = some (.slice e)) (hi : P.info? e = some i)
    (v : Value) (n : Nat) (xs : List Value) (hown : w.ownsRow base e size v n xs) (c : Nat) : (Builtin.append_ #[t, t] ty #[v, .slice none 0 c]).run P w = .ok v w := by
  rcases hown.2 with ⟨rfl, rfl⟩ | ⟨g, cap, cur, rfl, _, _, hnc, _⟩
  · simp [Builtin.append_, run_underlying ht, sizeOf, typeInfo, hi, Builtin.lenOf, Builtin.firstCells]
  · simp [Builtin.append_, run_underlying ht, sizeOf, typeInfo, hi, Builtin.lenOf, Builtin.firstCells, hnc, storeCells]

/-- append of integers to integers of the call's own. -/
theorem op_appS {w0 w : World} {o : Oper} {a : Act} {K : Act → World → Prop} {Q : Exit → Act → World → Prop} (s x : Operand)
    (ho : o.op = .call { callee := .builtin .append, args := #[s, x], argTypes := #[29, 29] })
    (v : Value) (A : Option Addr) (n c : Nat) (xs zs : List ByteArray) (hs : a.eval s = v) (hx : a.eval x = .slice A n c) (hown : OwnS w0 v xs w) (hn : n = zs.length) (hu : TxtsAt w A zs) (hlim : (xs.length + zs.length) * 16 ≤ 140737488355328)
    (h : ∀ v' w', OwnS w0 v' (xs ++ zs) w' → w.grownBy w' v.ownBlock → K (a.put o.dst v') w') : o.wp Tryz.prog a w K Q := by
  obtain ⟨i0, hi, hz0, hz1, hz2⟩ := info_parts info9
  subst hn
  have hfin : ∃ v' w', (Builtin.append_ #[29, 29] o.type #[v, .slice A zs.length c]).run Tryz.prog w = .ok v' w' ∧ OwnS w0 v' (xs ++ zs) w' ∧ w.grownBy w' v.ownBlock := by
    rcases A with _ | ad
    · have h0 : zs = [] := by
        rcases hu with h0 | ⟨b, off, e, _⟩
        · exact h0
        · cases e
      subst h0
      exact ⟨v, w, run_app_noneS w0.heap.size 29 o.type 9 i0 1 Tryz.underlying29 hi v _ _ hown.1 c, by simpa using hown, rfl, rfl, rfl, Nat.le_refl _, fun _ _ _ => rfl⟩
    · have hcells : ∀ j u, (zs.map (Value.string))[j]? = some u → w.cell? (ad.add j) = some u := by
        intro j u hj
        rcases hu with h0 | ⟨b, off, e, hc⟩
        · subst h0; simp at hj
        · cases e
          have hjl : j < zs.length := by
            have := (List.getElem?_eq_some_iff.1 hj).1
            simpa using this
          have e : (⟨b, off, none⟩ : Addr).add j = ⟨b, off + j, none⟩ := by unfold Addr.add; split <;> simp_all
          rw [e, hc j hjl]
          simp [hjl] at hj
          simp [List.getD, hjl, hj]
      obtain ⟨v', w', hr, h2, h3, _, _⟩ := run_append_own_at (P := Tryz.prog) w w0.heap.size 29 o.type 9 i0 (.string ⟨#[]⟩) 1 16 Tryz.underlying29 hi hz0 hz1 hz2 rfl (by decide) v xs.length _ hown.1 ad zs.length c (zs.map (Value.string)) (by simp) hcells
        (by intro u hu; obtain ⟨z, _, rfl⟩ := List.mem_map.1 hu; rfl) (by unfold maxLen; omega) hlim hown.2.size
      exact ⟨v', w', hr, ⟨by rw [List.length_append, List.map_append]; exact h2, hown.2.grown h3 hown.2.size (fun k hk => (hown.1.lt k hk).1)⟩, h3⟩
  obtain ⟨v', w', hr, h2, h3⟩ := hfin
  unfold Oper.wp execOp
  simp only [ho, resolve, invoke, builtin, Sem.run_bind, Sem.run_pure, Result.andThen_ok, List.map_toArray, List.map_cons, List.map_nil, hs, hx, hr]
  exact h v' w' h2 h3

theorem wpList_appS {w0 w : World} {ops : Array Oper} {rest : List Oper} {o : Oper} {a : Act} {Q : Exit → Act → World → Prop} (hgd : o.guard = none) (s x : Operand)
    (ho : o.op = .call { callee := .builtin .append, args := #[s, x], argTypes := #[29, 29] })
    (v : Value) (A : Option Addr) (n c : Nat) (xs zs : List ByteArray) (hs : a.eval s = v) (hx : a.eval x = .slice A n c) (hown : OwnS w0 v xs w) (hn : n = zs.length) (hu : TxtsAt w A zs) (hlim : (xs.length + zs.length) * 16 ≤ 140737488355328)
    (h : ∀ v' w', OwnS w0 v' (xs ++ zs) w' → w.grownBy w' v.ownBlock → wpList Tryz.prog ops Q rest (a.put o.dst v') w') : wpList Tryz.prog ops Q (o :: rest) a w :=
  wpList_plain hgd fun _ hK => op_appS s x ho v A n c xs zs hs hx hown hn hu hlim fun v' w' h1 h2 => hK _ _ (h v' w' h1 h2)

theorem step_appS {w0 w : World} {ops : Array Oper} {o : Oper} {a : Act} {K : Act → World → Prop} {Q : Exit → Act → World → Prop} {E : Prop} (hgd : o.guard = none) (s x : Operand)
    (ho : o.op = .call { callee := .builtin .append, args := #[s, x], argTypes := #[29, 29] })
    (v : Value) (A : Option Addr) (n c : Nat) (xs zs : List ByteArray) (hs : a.eval s = v) (hx : a.eval x = .slice A n c) (hown : OwnS w0 v xs w) (hn : n = zs.length) (hu : TxtsAt w A zs) (hlim : (xs.length + zs.length) * 16 ≤ 140737488355328)
    (h : ∀ v' w', OwnS w0 v' (xs ++ zs) w' → w.grownBy w' v.ownBlock → K (a.put o.dst v') w') : if Region.wanted o (yielded ops a.tmps) = true then Oper.wp Tryz.prog o a w K Q else E := by
  have hw : Region.wanted o (yielded ops a.tmps) = true := by simp [Region.wanted, hgd]
  rw [if_pos hw]
  exact op_appS s x ho v A n c xs zs hs hx hown hn hu hlim h

theorem OwnS.made (w : World) : OwnS w (.slice (some ⟨w.heap.size, 0, none⟩) 0 0) [] (w.alloc (.cells #[] 9)) :=
  ⟨World.ownsRow_made w #[] 0 (Nat.le_refl _) (Nat.zero_le _) rfl, ints_below_alloc w _⟩

theorem OwnS.nil (w : World) : OwnS w (.slice none 0 0) [] w := ⟨World.ownsRow_nil _ _ _ _, Below.refl _ _⟩

theorem OwnS.fresh {w W : World} {H : Nat} (hb : Below w.heap.size w W) (h : W.heap.size = H) : OwnS w (.slice (some ⟨H, 0, none⟩) 0 0) [] (W.alloc (.cells #[] 9)) := by
  subst h
  exact ⟨World.ownsRow_made W #[] 0 hb.size (Nat.zero_le _) rfl, hb.alloc hb.size _⟩

theorem OwnS.alloc {w0 w : World} {v : Value} {l : List ByteArray} (h : OwnS w0 v l w) (o : Obj) : OwnS w0 v l (w.alloc o) := ⟨h.1.alloc o, h.2.alloc h.2.size o⟩

theorem OwnS.drew {w0 w : World} {v : Value} {l : List ByteArray} (h : OwnS w0 v l w) : OwnS w0 v l w.drew := ⟨h.1.drew, h.2.drew⟩

theorem txts_grown {w w' : World} {g : Nat} {zs : List ByteArray} {row : Option Nat} (h : TxtsAt w (some ⟨g, 0, none⟩) zs) (hg : w.grownBy w' row) (hne : row ≠ some g) : TxtsAt w' (some ⟨g, 0, none⟩) zs := by
  rcases h with h | ⟨b, off, e, hc⟩
  · exact .inl h
  · cases e
    exact .inr ⟨_, _, rfl, fun i hi => cell_grown hg (hc i hi) hne⟩

theorem txts_newH (w : World) (zs : List ByteArray) (t : TypeId) {H : Nat} (h : w.heap.size = H) : TxtsAt (w.alloc (.cells (zs.map (Value.string)).toArray t)).drew (some ⟨H, 0, none⟩) zs := by
  subst h
  exact txts_new w zs t

theorem txts_oldH (w : World) (zs : List ByteArray) (t : TypeId) (o : Obj) : TxtsAt ((w.alloc (.cells (zs.map (Value.string)).toArray t)).alloc o).drew (some ⟨w.heap.size, 0, none⟩) zs :=
  TxtsAt.below (txts_new w zs t) (below_dr (ints_below_alloc _ o) 1)

theorem txts_old {w w' : World} {g : Nat} {zs : List ByteArray} (h : TxtsAt w (some ⟨g, 0, none⟩) zs) (o : Obj) : TxtsAt (w.alloc o) (some ⟨g, 0, none⟩) zs := h.below (ints_below_alloc w o)

/-- A slice of integers, its length within its capacity. -/
def CutS (w : World) (A : Option Addr) (n c : Nat) (l : List ByteArray) : Prop := n = l.length ∧ TxtsAt w A l ∧ n ≤ c ∧ c ≤ maxLen

def SliceS (w : World) (v : Value) (l : List ByteArray) : Prop := ∃ A n c, v = .slice A n c ∧ CutS w A n c l

theorem CutS.below {w w' : World} {A : Option Addr} {n c : Nat} {l : List ByteArray} (h : CutS w A n c l) (hb : Below w.heap.size w w') : CutS w' A n c l := ⟨h.1, h.2.1.below hb, h.2.2.1, h.2.2.2⟩

theorem SliceS.below {w w' : World} {v : Value} {l : List ByteArray} (h : SliceS w v l) (hb : Below w.heap.size w w') : SliceS w' v l := by
  obtain ⟨A, n, c, e, h⟩ := h
  exact ⟨A, n, c, e, h.below hb⟩

theorem TxtsAt.drewN {w : World} {A : Option Addr} {l : List ByteArray} (h : TxtsAt w A l) (q : Nat) : TxtsAt (w.drewN q) A l := h

theorem CutS.drewN {w : World} {A : Option Addr} {n c : Nat} {l : List ByteArray} (h : CutS w A n c l) (q : Nat) : CutS (w.drewN q) A n c l := h

theorem OwnS.sliceI {w0 w : World} {v : Value} {l : List ByteArray} (h : OwnS w0 v l w) : SliceS w v l := by
  obtain ⟨a, c, hv, hb⟩ := h.slice
  refine ⟨a, _, c, hv, rfl, hb, ?_⟩
  rcases h.1.2 with ⟨h1, h0⟩ | ⟨g, cap, cur, h1, _, _, h2, h3, _⟩
  · rw [hv] at h1
    simp at h1
    obtain ⟨_, h4, h5⟩ := h1
    subst h5
    simp [h0]
  · rw [hv] at h1
    simp at h1
    obtain ⟨_, rfl⟩ := h1
    exact ⟨h2, h3⟩

theorem TxtsAt.cell {w : World} {A : Option Addr} {l : List ByteArray} (h : TxtsAt w A l) {k : Nat} (hk : k < l.length) : ∃ b off, A = some ⟨b, off, none⟩ ∧ w.cell? ⟨b, off + k, none⟩ = some (.string l[k]) := by
  rcases h with h0 | ⟨b, off, e, hc⟩
  · rw [h0] at hk; simp at hk
  · exact ⟨b, off, e, by rw [hc k hk]; simp [List.getD, List.getElem?_eq_getElem hk]⟩

theorem TxtsAt.take {w : World} {A : Option Addr} {l : List ByteArray} (h : TxtsAt w A l) (k : Nat) : TxtsAt w A (l.take k) := by
  rcases h with h0 | ⟨b, off, e, hc⟩
  · left; rw [h0]; simp
  · refine .inr ⟨b, off, e, fun i hi => ?_⟩
    have hi2 : i < k ∧ i < l.length := by simp at hi; omega
    rw [hc i hi2.2]
    simp [List.getD, hi2.1]

theorem CutS.drop {w : World} {A : Option Addr} {n c : Nat} {l : List ByteArray} (h : CutS w A n c l) {k : Nat} (hk : k ≤ n) : CutS w (if c = k then A else A.map (·.add k)) (n - k) (c - k) (l.drop k) := by
  obtain ⟨rfl, hb, hc, hm⟩ := h
  refine ⟨by simp, ?_, by omega, by unfold maxLen at *; omega⟩
  by_cases hr : l.drop k = []
  · exact .inl hr
  · have hrl : 0 < (l.drop k).length := List.length_pos_iff.2 hr
    rw [List.length_drop] at hrl
    rcases hb with h0 | ⟨b, off, rfl, hcell⟩
    · rw [h0] at hrl; simp at hrl
    · rw [if_neg (by omega)]
      refine .inr ⟨b, off + k, ?_, fun i hi => ?_⟩
      · show some ((⟨b, off, none⟩ : Addr).add _) = _
        unfold Addr.add
        by_cases h0 : k = 0 <;> simp [h0]
      · rw [List.length_drop] at hi
        rw [Nat.add_assoc, hcell _ (by omega)]
        simp [List.getD]

theorem putS_split {l : List ByteArray} {n : ByteArray} {k : Nat} (hk : k < l.length) (hlt : bs l[k] < bs n) (h : putS l n = l.take k ++ putS (l.drop k) n) : putS l n = l.take (k + 1) ++ putS (l.drop (k + 1)) n := by
  rw [h, List.drop_eq_getElem_cons hk, putS, if_pos hlt, List.take_succ_eq_append_getElem hk, List.append_assoc]
  rfl

theorem putS_there {l : List ByteArray} {n : ByteArray} {k : Nat} (hk : k < l.length) (he : l[k] = n) (h : putS l n = l.take k ++ putS (l.drop k) n) : putS l n = l := by
  rw [h, List.drop_eq_getElem_cons hk, putS, if_neg (by rw [he]; exact sl_irr _), if_pos he, ← List.drop_eq_getElem_cons hk, List.take_append_drop]

theorem putS_end {l : List ByteArray} {n : ByteArray} {k : Nat} (hk : l.length ≤ k) (h : putS l n = l.take k ++ putS (l.drop k) n) : putS l n = ([] ++ l.take k ++ [n]) ++ l.drop k := by
  rw [h, List.drop_of_length_le hk, putS]
  simp

theorem putS_mid {l : List ByteArray} {n : ByteArray} {k : Nat} (hk : k < l.length) (h1 : ¬ bs l[k] < bs n) (h2 : l[k] ≠ n) (h : putS l n = l.take k ++ putS (l.drop k) n) : putS l n = ([] ++ l.take k ++ [n]) ++ l.drop k := by
  rw [h, List.drop_eq_getElem_cons hk, putS, if_neg h1, if_neg h2]
  simp

set_option maxHeartbeats 1000000 in
set_option maxRecDepth 100000 in
theorem putS_in {w : World} {A : Option Addr} {n c : Nat} {l : List ByteArray} (h : CutS w A n c l) (x : ByteArray) (hl : (n + 1) * 16 ≤ 140737488355328) :
    Calls Tryz.prog 54 #[.slice A n c, .string x] w fun e w' => ∃ v, e = .returned v ∧ SliceS w' v (putS l x) ∧ Below w.heap.size w w' := by
  have hnc : n ≤ c := h.2.2.1
  have hcm : c ≤ 9223372036854775807 := h.2.2.2
  have hnl : n = l.length := h.1
  have HN := Lib.hid hnl
  have HA := Lib.hid h
  clear h hnl
  go_enter Tryz.func54, Tryz.ntmps54
  go_wp2_with fail
  go_loopw [5] (fun vi wr => ∃ k : Nat, k ≤ n ∧ vi = .int .i64 k ∧ w = wr ∧ Hid (putS l x = l.take k ++ putS (l.drop k) x)) (fun vi _ => n - (intOf vi).toNat)
  case atStart => exact ⟨0, Nat.zero_le _, rfl, rfl, (rfl : putS l x = putS l x)⟩
  case round =>
    obtain ⟨k, hk, rfl, rfl, HP⟩ := hrel
    have hk0 : (0 : Int) ≤ (k : Int) := by omega
    have hkn : (k : Int) ≤ (n : Int) := by omega
    have hkc : (k : Int) ≤ (c : Int) := by omega
    by_cases hkl : k < n
    · have hkl' : k < l.length := by have := HN.out; omega
      obtain ⟨b, off, rfl, hc⟩ := HA.out.2.1.cell hkl'
      have hlt : (k : Int) < (n : Int) := by omega
      generalize hy : l[k] = y at hc
      have HY := Lib.hid hy
      clear hy
      by_cases hyx : bs y < bs x
      · have hB0 : Op.bytesLess y.toList x.toList = true := by rw [toList_bs, toList_bs, bytesLess_eq]; exact decide_eq_true hyx
        go_wp2
        go_roundw
        case rel => exact ⟨k + 1, by omega, by go_num, trivial, putS_split hkl' (by rw [HY.out]; exact hyx) HP.out⟩
        case measure => simp [intOf]; omega
      · have hB0 : Op.bytesLess y.toList x.toList = false := by rw [toList_bs, toList_bs, bytesLess_eq]; exact decide_eq_false hyx
        by_cases hyx2 : y = x
        · subst hyx2
          have hB1 : (y.toList == y.toList) = true := by rw [beqS]; exact decide_eq_true rfl
          have HE := Lib.hid (putS_there hkl' HY.out HP.out)
          go_wp2
          go_ret
          exact ⟨_, rfl, by rw [HE.out]; exact ⟨_, _, _, rfl, HA.out⟩, Below.refl _ _⟩
        · have hB : (y.toList == x.toList) = false := by rw [beqS]; exact decide_eq_false hyx2
          go_wp2
          have hd : TxtsAt w (if c = k then some ⟨b, off, none⟩ else some ⟨b, off + k, none⟩) (l.drop k) := by
            have h1 := (HA.out.drop (k := k) (by omega)).2.1
            have e : (if c = k then (some ⟨b, off, none⟩ : Option Addr) else (some ⟨b, off, none⟩ : Option Addr).map (·.add k)) = (if c = k then some ⟨b, off, none⟩ else some ⟨b, off + k, none⟩) := by
              congr 1
              show some ((⟨b, off, none⟩ : Addr).add k) = _
              unfold Addr.add
              by_cases h0 : k = 0 <;> simp [h0]
            rw [e] at h1
            exact h1
          have ht := HA.out.2.1.take k
          have HT := Lib.hid ht
          have HD := Lib.hid hd
          have HE := Lib.hid (putS_mid hkl' (by rw [HY.out]; exact hyx) (by rw [HY.out]; exact hyx2) HP.out)
          have htl : (l.take k).length = k := by simp; omega
          have HTL := Lib.hid htl
          have hdl : (l.drop k).length = n - k := by have := HN.out; simp; omega
          have HDL := Lib.hid hdl
          clear ht hd htl hdl
          go_region_held3 (fun W => Below w.heap.size w W)
            (first | exact (Below.refl _ _).drew | exact ((Below.refl _ _).alloc (Nat.le_refl _) _).drew | exact (((Below.refl _ _).alloc (Nat.le_refl _) _).alloc (by simp) _).drew | exact h6.2 | exact h5.2 | exact (h5.2.alloc h5.2.size _) | exact h4.2 | exact (h4.2.alloc h4.2.size _))
            ((first
              | (refine step_appS (w0 := w) (by rfl) (.tmp 33) (.tmp 36) (by rfl) _ (some ⟨b, off, none⟩) k _ [] (l.take k) (by rfl) (by rfl) (by first | exact (OwnS.fresh (Below.refl _ _) rfl).drew | exact ((OwnS.fresh (Below.refl _ _) rfl).alloc _).drew | exact (OwnS.fresh ((Below.refl _ _).alloc (Nat.le_refl _) _) (by simp)).drew) HTL.out.symm (HT.out.below (by first | exact ((Below.refl _ _).alloc (Nat.le_refl _) _).drew | exact (((Below.refl _ _).alloc (Nat.le_refl _) _).alloc (by simp) _).drew)) (by rw [HTL.out]; simp; omega) ?_; intro v4 w4 h4 hg4)
              | (refine step_appS (w0 := w) (by rfl) (.tmp 37) (.tmp 39) (by rfl) v4 _ 1 1 ([] ++ l.take k) [x] (by rfl) (by rfl) (by first | exact h4 | exact h4.alloc _) (by rfl) (by first | exact txts_new w4 [x] 9 | exact txts_grown (txts_newH _ [x] 9 (by simp)) hg4 (by first | (show (some w.heap.size : Option Nat) ≠ some (w.heap.size + 1); simp) | (show (some (w.heap.size + 1) : Option Nat) ≠ some w.heap.size; simp)) | exact txts_grown (txts_oldH _ [x] 9 _) hg4 (by first | (show (some w.heap.size : Option Nat) ≠ some (w.heap.size + 1); simp) | (show (some (w.heap.size + 1) : Option Nat) ≠ some w.heap.size; simp))) (by rw [List.nil_append, HTL.out]; simp; omega) ?_; intro v5 w5 h5 hg5)
              | (refine step_appS (w0 := w) (by rfl) (.tmp 40) (.tmp 43) (by rfl) v5 _ (n - k) (c - k) ([] ++ l.take k ++ [x]) (l.drop k) (by rfl) (by rfl) h5 HDL.out.symm (HD.out.below h5.2) (by rw [List.nil_append, List.length_append, HTL.out, HDL.out]; simp; omega) ?_; intro v6 w6 h6 hg6)))
          all_goals
            go_wp2
            go_ret
            exact ⟨_, rfl, by rw [HE.out]; exact h6.sliceI, h6.2⟩
    · have hlt : ¬ (k : Int) < (n : Int) := by omega
      obtain rfl : k = n := by omega
      have HE := Lib.hid (putS_end (by have := HN.out; omega) HP.out)
      rw [List.drop_of_length_le (by have := HN.out; omega)] at HE
      have HT := Lib.hid (HA.out.2.1.take k)
      have HTL : Hid ((l.take k).length = k) := by have := HN.out; show _ = _; simp; omega
      have HDL : Hid ((l.drop k).length = k - k) := by have := HN.out; show _ = _; simp; omega
      have HD : Hid (l.drop k = []) := by have := HN.out; exact List.drop_of_length_le (by omega)
      clear hk hkn
      go_wp2
      go_region_held3 (fun W => Below w.heap.size w W)
            (first | exact (Below.refl _ _).drew | exact ((Below.refl _ _).alloc (Nat.le_refl _) _).drew | exact (((Below.refl _ _).alloc (Nat.le_refl _) _).alloc (by simp) _).drew | exact h6.2 | exact h5.2 | exact (h5.2.alloc h5.2.size _) | exact h4.2 | exact (h4.2.alloc h4.2.size _))
            ((first
              | (refine step_appS (w0 := w) (by rfl) (.tmp 33) (.tmp 36) (by rfl) _ (A) k _ [] (l.take k) (by rfl) (by rfl) (by first | exact (OwnS.fresh (Below.refl _ _) rfl).drew | exact ((OwnS.fresh (Below.refl _ _) rfl).alloc _).drew | exact (OwnS.fresh ((Below.refl _ _).alloc (Nat.le_refl _) _) (by simp)).drew) HTL.out.symm (HT.out.below (by first | exact ((Below.refl _ _).alloc (Nat.le_refl _) _).drew | exact (((Below.refl _ _).alloc (Nat.le_refl _) _).alloc (by simp) _).drew)) (by rw [HTL.out]; simp; omega) ?_; intro v4 w4 h4 hg4)
              | (refine step_appS (w0 := w) (by rfl) (.tmp 37) (.tmp 39) (by rfl) v4 _ 1 1 ([] ++ l.take k) [x] (by rfl) (by rfl) (by first | exact h4 | exact h4.alloc _) (by rfl) (by first | exact txts_new w4 [x] 9 | exact txts_grown (txts_newH _ [x] 9 (by simp)) hg4 (by first | (show (some w.heap.size : Option Nat) ≠ some (w.heap.size + 1); simp) | (show (some (w.heap.size + 1) : Option Nat) ≠ some w.heap.size; simp)) | exact txts_grown (txts_oldH _ [x] 9 _) hg4 (by first | (show (some w.heap.size : Option Nat) ≠ some (w.heap.size + 1); simp) | (show (some (w.heap.size + 1) : Option Nat) ≠ some w.heap.size; simp))) (by rw [List.nil_append, HTL.out]; simp; omega) ?_; intro v5 w5 h5 hg5)
              | (refine step_appS (w0 := w) (by rfl) (.tmp 40) (.tmp 43) (by rfl) v5 _ _ _ ([] ++ l.take k ++ [x]) [] (by rfl) (by rfl) h5 (by simp) (.inl rfl) (by rw [List.nil_append, List.length_append, HTL.out]; simp; omega) ?_; intro v6 w6 h6 hg6)))
      all_goals
        go_wp2
        all_goals
          go_ret
          exact ⟨_, rfl, by rw [HE.out]; exact h6.sliceI, h6.2⟩

theorem CutS.len {w : World} {A : Option Addr} {n c : Nat} {l : List ByteArray} (h : CutS w A n c l) {k : Nat} (hk : l.length ≤ k) : n ≤ k := by rw [h.1]; exact hk
end Go.Proofs.YtnplmembdfklcaaGreatDoor
