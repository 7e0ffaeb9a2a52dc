/-
  The lists of integers: append, the document's Put1, Has, Sort. Helper text; the conditions are those typed.
-/
import Derived.Test.YtieahneoofdneaaDoorLawA
import Derived.Laws.AppendOwnNone
import Derived.Deep.Slices
import Derived.Test.YtieahneoofdneaaDoorLawE
import Derived.Deep.RegionHeld3
import Derived.Deep.DrawnRows
namespace Go.Proofs.YtieahneoofdneaaDoor
set_option linter.unusedVariables false
set_option linter.unusedSimpArgs false
open Go.RowKit Go.Maps Go.Shelf Go.Sort

theorem info3 : (Tryd.prog.info? 3).map (fun i => (i.zero, i.size, i.bytes)) = some (some (.int .i64 0), 1, 8) := by kernel_rfl

theorem srtd_eq (zs : List Int) : sorted zs = srtd zs := rfl

/-- append of nil, whatever its spare says, to a row of the call's own. -/
theorem run_app_none {P : Program} {w : World} (base : Nat) (t ty e : TypeId) (i : TypeInfo) (size : Nat) (ht : P.underlying t = some (.slice e)) (hi : P.info? e = some i)
    (v : Value) (n : Nat) (xs : List Value) (hown : w.ownsRow base e size v n xs) (c : Nat) : (Builtin.append_ #[t, t] ty #[v, .slice none 0 c]).run P w = .ok v w := by
  rcases hown.2 with ⟨rfl, rfl⟩ | ⟨g, cap, cur, rfl, _, _, hnc, _⟩
  · simp [Builtin.append_, run_underlying ht, sizeOf, typeInfo, hi, Builtin.lenOf, Builtin.firstCells]
  · simp [Builtin.append_, run_underlying ht, sizeOf, typeInfo, hi, Builtin.lenOf, Builtin.firstCells, hnc, storeCells]

/-- append of integers to integers of the call's own. -/
theorem op_appI {w0 w : World} {o : Oper} {a : Act} {K : Act → World → Prop} {Q : Exit → Act → World → Prop} (s x : Operand)
    (ho : o.op = .call { callee := .builtin .append, args := #[s, x], argTypes := #[28, 28] })
    (v : Value) (A : Option Addr) (n c : Nat) (xs zs : List Int) (hs : a.eval s = v) (hx : a.eval x = .slice A n c) (hown : OwnI w0 v xs w) (hn : n = zs.length) (hu : IntsAt w A zs) (hlim : (xs.length + zs.length) * 8 ≤ 140737488355328)
    (h : ∀ v' w', OwnI w0 v' (xs ++ zs) w' → w.grownBy w' v.ownBlock → K (a.put o.dst v') w') : o.wp Tryd.prog a w K Q := by
  obtain ⟨i0, hi, hz0, hz1, hz2⟩ := info_parts info3
  subst hn
  have hfin : ∃ v' w', (Builtin.append_ #[28, 28] o.type #[v, .slice A zs.length c]).run Tryd.prog w = .ok v' w' ∧ OwnI w0 v' (xs ++ zs) w' ∧ w.grownBy w' v.ownBlock := by
    rcases A with _ | ad
    · have h0 : zs = [] := by
        rcases hu with h0 | ⟨b, off, e, _⟩
        · exact h0
        · cases e
      subst h0
      exact ⟨v, w, run_app_none w0.heap.size 28 o.type 3 i0 1 Tryd.underlying28 hi v _ _ hown.1 c, by simpa using hown, rfl, rfl, rfl, Nat.le_refl _, fun _ _ _ => rfl⟩
    · have hcells : ∀ j u, (zs.map (Value.int .i64))[j]? = some u → w.cell? (ad.add j) = some u := by
        intro j u hj
        rcases hu with h0 | ⟨b, off, e, hc⟩
        · subst h0; simp at hj
        · cases e
          have hjl : j < zs.length := by
            have := (List.getElem?_eq_some_iff.1 hj).1
            simpa using this
          have e : (⟨b, off, none⟩ : Addr).add j = ⟨b, off + j, none⟩ := by unfold Addr.add; split <;> simp_all
          rw [e, hc j hjl]
          simp [hjl] at hj
          simp [List.getD, hjl, hj]
      obtain ⟨v', w', hr, h2, h3, _, _⟩ := run_append_own_at (P := Tryd.prog) w w0.heap.size 28 o.type 3 i0 (.int .i64 0) 1 8 Tryd.underlying28 hi hz0 hz1 hz2 rfl (by decide) v xs.length _ hown.1 ad zs.length c (zs.map (Value.int .i64)) (by simp) hcells
        (by intro u hu; obtain ⟨z, _, rfl⟩ := List.mem_map.1 hu; rfl) (by unfold maxLen; omega) hlim hown.2.size
      exact ⟨v', w', hr, ⟨by rw [List.length_append, List.map_append]; exact h2, hown.2.grown h3 hown.2.size (fun k hk => (hown.1.lt k hk).1)⟩, h3⟩
  obtain ⟨v', w', hr, h2, h3⟩ := hfin
  unfold Oper.wp execOp
  simp only [ho, resolve, invoke, builtin, Sem.run_bind, Sem.run_pure, Result.andThen_ok, List.map_toArray, List.map_cons, List.map_nil, hs, hx, hr]
  exact h v' w' h2 h3
theorem wpList_appI {w0 w : World} {ops : Array Oper} {rest : List Oper} {o : Oper} {a : Act} {Q : Exit → Act → World → Prop} (hgd : o.guard = none) (s x : Operand)
    (ho : o.op = .call { callee := .builtin .append, args := #[s, x], argTypes := #[28, 28] })
    (v : Value) (A : Option Addr) (n c : Nat) (xs zs : List Int) (hs : a.eval s = v) (hx : a.eval x = .slice A n c) (hown : OwnI w0 v xs w) (hn : n = zs.length) (hu : IntsAt w A zs) (hlim : (xs.length + zs.length) * 8 ≤ 140737488355328)
    (h : ∀ v' w', OwnI w0 v' (xs ++ zs) w' → w.grownBy w' v.ownBlock → wpList Tryd.prog ops Q rest (a.put o.dst v') w') : wpList Tryd.prog ops Q (o :: rest) a w :=
  wpList_plain hgd fun _ hK => op_appI s x ho v A n c xs zs hs hx hown hn hu hlim fun v' w' h1 h2 => hK _ _ (h v' w' h1 h2)

theorem step_appI {w0 w : World} {ops : Array Oper} {o : Oper} {a : Act} {K : Act → World → Prop} {Q : Exit → Act → World → Prop} {E : Prop} (hgd : o.guard = none) (s x : Operand)
    (ho : o.op = .call { callee := .builtin .append, args := #[s, x], argTypes := #[28, 28] })
    (v : Value) (A : Option Addr) (n c : Nat) (xs zs : List Int) (hs : a.eval s = v) (hx : a.eval x = .slice A n c) (hown : OwnI w0 v xs w) (hn : n = zs.length) (hu : IntsAt w A zs) (hlim : (xs.length + zs.length) * 8 ≤ 140737488355328)
    (h : ∀ v' w', OwnI w0 v' (xs ++ zs) w' → w.grownBy w' v.ownBlock → K (a.put o.dst v') w') : if Region.wanted o (yielded ops a.tmps) = true then Oper.wp Tryd.prog o a w K Q else E := by
  have hw : Region.wanted o (yielded ops a.tmps) = true := by simp [Region.wanted, hgd]
  rw [if_pos hw]
  exact op_appI s x ho v A n c xs zs hs hx hown hn hu hlim h

theorem OwnI.made (w : World) : OwnI w (.slice (some ⟨w.heap.size, 0, none⟩) 0 0) [] (w.alloc (.cells #[] 3)) :=
  ⟨World.ownsRow_made w #[] 0 (Nat.le_refl _) (Nat.zero_le _) rfl, below_alloc w _⟩
theorem OwnI.nil (w : World) : OwnI w (.slice none 0 0) [] w := ⟨World.ownsRow_nil _ _ _ _, Below.refl _ _⟩

theorem OwnI.fresh {w W : World} {H : Nat} (hb : Below w.heap.size w W) (h : W.heap.size = H) : OwnI w (.slice (some ⟨H, 0, none⟩) 0 0) [] (W.alloc (.cells #[] 3)) := by
  subst h
  exact ⟨World.ownsRow_made W #[] 0 hb.size (Nat.zero_le _) rfl, hb.alloc hb.size _⟩
theorem OwnI.alloc {w0 w : World} {v : Value} {l : List Int} (h : OwnI w0 v l w) (o : Obj) : OwnI w0 v l (w.alloc o) := ⟨h.1.alloc o, h.2.alloc h.2.size o⟩
theorem OwnI.drew {w0 w : World} {v : Value} {l : List Int} (h : OwnI w0 v l w) : OwnI w0 v l w.drew := ⟨h.1.drew, h.2.drew⟩
theorem ints_grown {w w' : World} {g : Nat} {zs : List Int} {row : Option Nat} (h : IntsAt w (some ⟨g, 0, none⟩) zs) (hg : w.grownBy w' row) (hne : row ≠ some g) : IntsAt w' (some ⟨g, 0, none⟩) zs := by
  rcases h with h | ⟨b, off, e, hc⟩
  · exact .inl h
  · cases e
    exact .inr ⟨_, _, rfl, fun i hi => cell_grown hg (hc i hi) hne⟩
theorem ints_newH (w : World) (zs : List Int) (t : TypeId) {H : Nat} (h : w.heap.size = H) : IntsAt (w.alloc (.cells (zs.map (Value.int .i64)).toArray t)).drew (some ⟨H, 0, none⟩) zs := by
  subst h
  exact ints_new w zs t
theorem ints_oldH (w : World) (zs : List Int) (t : TypeId) (o : Obj) : IntsAt ((w.alloc (.cells (zs.map (Value.int .i64)).toArray t)).alloc o).drew (some ⟨w.heap.size, 0, none⟩) zs :=
  IntsAt.below (ints_new w zs t) (Below.dr (below_alloc _ o) 1)
theorem ints_old {w w' : World} {g : Nat} {zs : List Int} (h : IntsAt w (some ⟨g, 0, none⟩) zs) (o : Obj) : IntsAt (w.alloc o) (some ⟨g, 0, none⟩) zs := h.below (below_alloc w o)

/-- A slice of integers, its length within its capacity. -/
def CutI (w : World) (A : Option Addr) (n c : Nat) (l : List Int) : Prop := n = l.length ∧ IntsAt w A l ∧ n ≤ c ∧ c ≤ maxLen
def SliceI (w : World) (v : Value) (l : List Int) : Prop := ∃ A n c, v = .slice A n c ∧ CutI w A n c l

theorem CutI.below {w w' : World} {A : Option Addr} {n c : Nat} {l : List Int} (h : CutI w A n c l) (hb : Below w.heap.size w w') : CutI w' A n c l := ⟨h.1, h.2.1.below hb, h.2.2.1, h.2.2.2⟩
theorem SliceI.below {w w' : World} {v : Value} {l : List Int} (h : SliceI w v l) (hb : Below w.heap.size w w') : SliceI w' v l := by
  obtain ⟨A, n, c, e, h⟩ := h
  exact ⟨A, n, c, e, h.below hb⟩
theorem IntsAt.drewN {w : World} {A : Option Addr} {l : List Int} (h : IntsAt w A l) (q : Nat) : IntsAt (w.drewN q) A l := h
theorem CutI.drewN {w : World} {A : Option Addr} {n c : Nat} {l : List Int} (h : CutI w A n c l) (q : Nat) : CutI (w.drewN q) A n c l := h

theorem OwnI.sliceI {w0 w : World} {v : Value} {l : List Int} (h : OwnI w0 v l w) : SliceI w v l := by
  obtain ⟨a, c, hv, hb⟩ := h.slice
  refine ⟨a, _, c, hv, rfl, hb, ?_⟩
  rcases h.1.2 with ⟨h1, h0⟩ | ⟨g, cap, cur, h1, _, _, h2, h3, _⟩
  · rw [hv] at h1
    simp at h1
    obtain ⟨_, h4, h5⟩ := h1
    subst h5
    simp [h0]
  · rw [hv] at h1
    simp at h1
    obtain ⟨_, rfl⟩ := h1
    exact ⟨h2, h3⟩

theorem IntsAt.cell {w : World} {A : Option Addr} {l : List Int} (h : IntsAt w A l) {k : Nat} (hk : k < l.length) : ∃ b off, A = some ⟨b, off, none⟩ ∧ w.cell? ⟨b, off + k, none⟩ = some (.int .i64 l[k]) := by
  rcases h with h0 | ⟨b, off, e, hc⟩
  · rw [h0] at hk; simp at hk
  · exact ⟨b, off, e, by rw [hc k hk]; simp [List.getD, List.getElem?_eq_getElem hk]⟩

theorem IntsAt.take {w : World} {A : Option Addr} {l : List Int} (h : IntsAt w A l) (k : Nat) : IntsAt w A (l.take k) := by
  rcases h with h0 | ⟨b, off, e, hc⟩
  · left; rw [h0]; simp
  · refine .inr ⟨b, off, e, fun i hi => ?_⟩
    have hi2 : i < k ∧ i < l.length := by simp at hi; omega
    rw [hc i hi2.2]
    simp [List.getD, hi2.1]

theorem CutI.drop {w : World} {A : Option Addr} {n c : Nat} {l : List Int} (h : CutI w A n c l) {k : Nat} (hk : k ≤ n) : CutI w (if c = k then A else A.map (·.add k)) (n - k) (c - k) (l.drop k) := by
  obtain ⟨rfl, hb, hc, hm⟩ := h
  refine ⟨by simp, ?_, by omega, by unfold maxLen at *; omega⟩
  by_cases hr : l.drop k = []
  · exact .inl hr
  · have hrl : 0 < (l.drop k).length := List.length_pos_iff.2 hr
    rw [List.length_drop] at hrl
    rcases hb with h0 | ⟨b, off, rfl, hcell⟩
    · rw [h0] at hrl; simp at hrl
    · rw [if_neg (by omega)]
      refine .inr ⟨b, off + k, ?_, fun i hi => ?_⟩
      · show some ((⟨b, off, none⟩ : Addr).add _) = _
        unfold Addr.add
        by_cases h0 : k = 0 <;> simp [h0]
      · rw [List.length_drop] at hi
        rw [Nat.add_assoc, hcell _ (by omega)]
        simp [List.getD]

theorem put1_split {l : List Int} {n : Int} {k : Nat} (hk : k < l.length) (hlt : l[k] < n) (h : put1 l n = l.take k ++ put1 (l.drop k) n) : put1 l n = l.take (k + 1) ++ put1 (l.drop (k + 1)) n := by
  rw [h, List.drop_eq_getElem_cons hk, put1, if_pos hlt, List.take_succ_eq_append_getElem hk, List.append_assoc]
  rfl
theorem put1_there {l : List Int} {n : Int} {k : Nat} (hk : k < l.length) (he : l[k] = n) (h : put1 l n = l.take k ++ put1 (l.drop k) n) : put1 l n = l := by
  rw [h, List.drop_eq_getElem_cons hk, put1, if_neg (by omega), if_pos he, ← List.drop_eq_getElem_cons hk, List.take_append_drop]
theorem put1_end {l : List Int} {n : Int} {k : Nat} (hk : l.length ≤ k) (h : put1 l n = l.take k ++ put1 (l.drop k) n) : put1 l n = ([] ++ l.take k ++ [n]) ++ l.drop k := by
  rw [h, List.drop_of_length_le hk, put1]
  simp
theorem put1_mid {l : List Int} {n : Int} {k : Nat} (hk : k < l.length) (h1 : ¬ l[k] < n) (h2 : l[k] ≠ n) (h : put1 l n = l.take k ++ put1 (l.drop k) n) : put1 l n = ([] ++ l.take k ++ [n]) ++ l.drop k := by
  rw [h, List.drop_eq_getElem_cons hk, put1, if_neg h1, if_neg h2]
  simp
theorem put1_length (l : List Int) (n : Int) : (put1 l n).length ≤ l.length + 1 := by
  induction l with
  | nil => simp [put1]
  | cons x l ih =>
    unfold put1
    split
    · simp only [List.length_cons]; omega
    · split <;> simp

set_option maxHeartbeats 1000000 in
set_option maxRecDepth 100000 in
theorem put1_in {w : World} {A : Option Addr} {n c : Nat} {l : List Int} (h : CutI w A n c l) (x : Int) (hl : (n + 1) * 8 ≤ 140737488355328) :
    Calls Tryd.prog 8 #[.slice A n c, .int .i64 x] w fun e w' => ∃ v, e = .returned v ∧ SliceI w' v (put1 l x) ∧ Below w.heap.size w w' := by
  have hnc : n ≤ c := h.2.2.1
  have hcm : c ≤ 9223372036854775807 := h.2.2.2
  have hnl : n = l.length := h.1
  have HN := Lib.hid hnl
  have HA := Lib.hid h
  clear h hnl
  go_enter Tryd.func8, Tryd.ntmps8
  go_wp2_with fail
  go_loopw [5] (fun vi wr => ∃ k : Nat, k ≤ n ∧ vi = .int .i64 k ∧ w = wr ∧ Hid (put1 l x = l.take k ++ put1 (l.drop k) x)) (fun vi _ => n - (intOf vi).toNat)
  case atStart => exact ⟨0, Nat.zero_le _, rfl, rfl, (rfl : put1 l x = put1 l x)⟩
  case round =>
    obtain ⟨k, hk, rfl, rfl, HP⟩ := hrel
    have hk0 : (0 : Int) ≤ (k : Int) := by omega
    have hkn : (k : Int) ≤ (n : Int) := by omega
    have hkc : (k : Int) ≤ (c : Int) := by omega
    by_cases hkl : k < n
    · have hkl' : k < l.length := by have := HN.out; omega
      obtain ⟨b, off, rfl, hc⟩ := HA.out.2.1.cell hkl'
      have hlt : (k : Int) < (n : Int) := by omega
      generalize hy : l[k] = y at hc
      have HY := Lib.hid hy
      clear hy
      by_cases hyx : y < x
      · go_wp2
        go_roundw
        case rel => exact ⟨k + 1, by omega, by go_num, trivial, put1_split hkl' (by rw [HY.out]; exact hyx) HP.out⟩
        case measure => simp [intOf]; omega
      · by_cases hyx2 : y = x
        · subst hyx2
          have HE := Lib.hid (put1_there hkl' HY.out HP.out)
          go_wp2
          go_ret
          exact ⟨_, rfl, by rw [HE.out]; exact ⟨_, _, _, rfl, HA.out⟩, Below.refl _ _⟩
        · have hB : ((y : Int) == x) = false := by simpa using hyx2
          go_wp2
          have hd : IntsAt w (if c = k then some ⟨b, off, none⟩ else some ⟨b, off + k, none⟩) (l.drop k) := by
            have h1 := (HA.out.drop (k := k) (by omega)).2.1
            have e : (if c = k then (some ⟨b, off, none⟩ : Option Addr) else (some ⟨b, off, none⟩ : Option Addr).map (·.add k)) = (if c = k then some ⟨b, off, none⟩ else some ⟨b, off + k, none⟩) := by
              congr 1
              show some ((⟨b, off, none⟩ : Addr).add k) = _
              unfold Addr.add
              by_cases h0 : k = 0 <;> simp [h0]
            rw [e] at h1
            exact h1
          have ht := HA.out.2.1.take k
          have HT := Lib.hid ht
          have HD := Lib.hid hd
          have HE := Lib.hid (put1_mid hkl' (by rw [HY.out]; omega) (by rw [HY.out]; exact hyx2) HP.out)
          have htl : (l.take k).length = k := by simp; omega
          have HTL := Lib.hid htl
          have hdl : (l.drop k).length = n - k := by have := HN.out; simp; omega
          have HDL := Lib.hid hdl
          clear ht hd htl hdl
          go_region_held3 (fun W => Below w.heap.size w W)
            (first | exact (Below.refl _ _).drew | exact ((Below.refl _ _).alloc (Nat.le_refl _) _).drew | exact (((Below.refl _ _).alloc (Nat.le_refl _) _).alloc (by simp) _).drew | exact h6.2 | exact h5.2 | exact (h5.2.alloc h5.2.size _) | exact h4.2 | exact (h4.2.alloc h4.2.size _))
            ((first
              | (refine step_appI (w0 := w) (by rfl) (.tmp 33) (.tmp 36) (by rfl) _ (some ⟨b, off, none⟩) k _ [] (l.take k) (by rfl) (by rfl) (by first | exact (OwnI.fresh (Below.refl _ _) rfl).drew | exact ((OwnI.fresh (Below.refl _ _) rfl).alloc _).drew | exact (OwnI.fresh ((Below.refl _ _).alloc (Nat.le_refl _) _) (by simp)).drew) HTL.out.symm (HT.out.below (by first | exact ((Below.refl _ _).alloc (Nat.le_refl _) _).drew | exact (((Below.refl _ _).alloc (Nat.le_refl _) _).alloc (by simp) _).drew)) (by rw [HTL.out]; simp; omega) ?_; intro v4 w4 h4 hg4)
              | (refine step_appI (w0 := w) (by rfl) (.tmp 37) (.tmp 39) (by rfl) v4 _ 1 1 ([] ++ l.take k) [x] (by rfl) (by rfl) (by first | exact h4 | exact h4.alloc _) (by rfl) (by first | exact ints_new w4 [x] 3 | exact ints_grown (ints_newH _ [x] 3 (by simp)) hg4 (by first | (show (some w.heap.size : Option Nat) ≠ some (w.heap.size + 1); simp) | (show (some (w.heap.size + 1) : Option Nat) ≠ some w.heap.size; simp)) | exact ints_grown (ints_oldH _ [x] 3 _) hg4 (by first | (show (some w.heap.size : Option Nat) ≠ some (w.heap.size + 1); simp) | (show (some (w.heap.size + 1) : Option Nat) ≠ some w.heap.size; simp))) (by rw [List.nil_append, HTL.out]; simp; omega) ?_; intro v5 w5 h5 hg5)
              | (refine step_appI (w0 := w) (by rfl) (.tmp 40) (.tmp 43) (by rfl) v5 _ (n - k) (c - k) ([] ++ l.take k ++ [x]) (l.drop k) (by rfl) (by rfl) h5 HDL.out.symm (HD.out.below h5.2) (by rw [List.nil_append, List.length_append, HTL.out, HDL.out]; simp; omega) ?_; intro v6 w6 h6 hg6)))
          all_goals
            go_wp2
            go_ret
            exact ⟨_, rfl, by rw [HE.out]; exact h6.sliceI, h6.2⟩
    · have hlt : ¬ (k : Int) < (n : Int) := by omega
      obtain rfl : k = n := by omega
      have HE := Lib.hid (put1_end (by have := HN.out; omega) HP.out)
      rw [List.drop_of_length_le (by have := HN.out; omega)] at HE
      have HT := Lib.hid (HA.out.2.1.take k)
      have HTL : Hid ((l.take k).length = k) := by have := HN.out; show _ = _; simp; omega
      have HDL : Hid ((l.drop k).length = k - k) := by have := HN.out; show _ = _; simp; omega
      have HD : Hid (l.drop k = []) := by have := HN.out; exact List.drop_of_length_le (by omega)
      clear hk hkn
      go_wp2
      go_region_held3 (fun W => Below w.heap.size w W)
            (first | exact (Below.refl _ _).drew | exact ((Below.refl _ _).alloc (Nat.le_refl _) _).drew | exact (((Below.refl _ _).alloc (Nat.le_refl _) _).alloc (by simp) _).drew | exact h6.2 | exact h5.2 | exact (h5.2.alloc h5.2.size _) | exact h4.2 | exact (h4.2.alloc h4.2.size _))
            ((first
              | (refine step_appI (w0 := w) (by rfl) (.tmp 33) (.tmp 36) (by rfl) _ (A) k _ [] (l.take k) (by rfl) (by rfl) (by first | exact (OwnI.fresh (Below.refl _ _) rfl).drew | exact ((OwnI.fresh (Below.refl _ _) rfl).alloc _).drew | exact (OwnI.fresh ((Below.refl _ _).alloc (Nat.le_refl _) _) (by simp)).drew) HTL.out.symm (HT.out.below (by first | exact ((Below.refl _ _).alloc (Nat.le_refl _) _).drew | exact (((Below.refl _ _).alloc (Nat.le_refl _) _).alloc (by simp) _).drew)) (by rw [HTL.out]; simp; omega) ?_; intro v4 w4 h4 hg4)
              | (refine step_appI (w0 := w) (by rfl) (.tmp 37) (.tmp 39) (by rfl) v4 _ 1 1 ([] ++ l.take k) [x] (by rfl) (by rfl) (by first | exact h4 | exact h4.alloc _) (by rfl) (by first | exact ints_new w4 [x] 3 | exact ints_grown (ints_newH _ [x] 3 (by simp)) hg4 (by first | (show (some w.heap.size : Option Nat) ≠ some (w.heap.size + 1); simp) | (show (some (w.heap.size + 1) : Option Nat) ≠ some w.heap.size; simp)) | exact ints_grown (ints_oldH _ [x] 3 _) hg4 (by first | (show (some w.heap.size : Option Nat) ≠ some (w.heap.size + 1); simp) | (show (some (w.heap.size + 1) : Option Nat) ≠ some w.heap.size; simp))) (by rw [List.nil_append, HTL.out]; simp; omega) ?_; intro v5 w5 h5 hg5)
              | (refine step_appI (w0 := w) (by rfl) (.tmp 40) (.tmp 43) (by rfl) v5 _ _ _ ([] ++ l.take k ++ [x]) [] (by rfl) (by rfl) h5 (by simp) (.inl rfl) (by rw [List.nil_append, List.length_append, HTL.out]; simp; omega) ?_; intro v6 w6 h6 hg6)))
      all_goals
        go_wp2
        all_goals
          go_ret
          exact ⟨_, rfl, by rw [HE.out]; exact h6.sliceI, h6.2⟩

set_option maxHeartbeats 1000000 in
theorem has_in {w : World} {A : Option Addr} {n c : Nat} {l : List Int} (h : CutI w A n c l) (x : Int) :
    Calls Tryd.prog 5 #[.slice A n c, .int .i64 x] w fun e w' => e = .returned (.bool (decide (x ∈ l))) ∧ w = w' := by
  have hnc : n ≤ c := h.2.2.1
  have hcm : c ≤ 9223372036854775807 := h.2.2.2
  have hnl : n = l.length := h.1
  have HN := Lib.hid hnl
  have HA := Lib.hid h
  clear h hnl
  go_enter Tryd.func5, Tryd.ntmps5
  go_wp2_with fail
  go_loopw [5] (fun vi wr => ∃ k : Nat, k ≤ n ∧ vi = .int .i64 k ∧ w = wr ∧ Hid (x ∉ l.take k)) (fun vi _ => n - (intOf vi).toNat)
  case atStart => exact ⟨0, Nat.zero_le _, rfl, rfl, show x ∉ l.take 0 by simp⟩
  case round =>
    obtain ⟨k, hk, rfl, rfl, HP⟩ := hrel
    by_cases hkl : k < n
    · have hkl' : k < l.length := by have := HN.out; omega
      obtain ⟨b, off, rfl, hc⟩ := HA.out.2.1.cell hkl'
      have hlt : (k : Int) < (n : Int) := by omega
      have hts : l.take (k + 1) = l.take k ++ [l[k]] := List.take_succ_eq_append_getElem hkl'
      generalize hy : l[k] = y at hc hts
      have HY := Lib.hid hy
      have HTS := Lib.hid hts
      clear hy hts
      by_cases hyx : y = x
      · have hB : ((y : Int) == x) = true := by simpa using hyx
        have hf : decide (x ∈ l) = true := by
          have := HY.out
          subst hyx
          subst this
          simp
        have HF := Lib.hid hf
        clear hf hyx
        go_wp2
        go_ret
        exact ⟨by rw [HF.out]; rfl, rfl⟩
      · have hB : ((y : Int) == x) = false := by simpa using hyx
        have hn : x ∉ l.take (k + 1) := by
          rw [HTS.out]
          have := HP.out
          simp only [List.mem_append, List.mem_singleton, not_or]
          exact ⟨this, fun e => hyx e.symm⟩
        have HNN := Lib.hid hn
        clear hn hyx
        go_wp2
        go_roundw
        case rel => exact ⟨k + 1, by omega, by go_num, trivial, HNN⟩
        case measure => simp [intOf]; omega
    · have hlt : ¬ (k : Int) < (n : Int) := by omega
      have hf : decide (x ∈ l) = false := by
        have := HP.out
        rw [List.take_of_length_le (by have := HN.out; omega)] at this
        simpa using this
      have HF := Lib.hid hf
      clear hf
      go_wp2
      go_ret
      exact ⟨by rw [HF.out]; rfl, rfl⟩

end Go.Proofs.YtieahneoofdneaaDoor
