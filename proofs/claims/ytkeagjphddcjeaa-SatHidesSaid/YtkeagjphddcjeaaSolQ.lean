/-
  Rows of rows that the laws build: append. Helper text; the conditions are those typed.
-/
import Derived.Test.YtkeagjphddcjeaaSolO
namespace Go.Proofs.Ytkeagjphddcjeaa
set_option linter.unusedVariables false
set_option linter.unusedSimpArgs false
open Go.RowKit Go.Maps Go.Shelf Go.Sort Sat

/-- append of nil, whatever its spare says, to a row of the call's own. -/
theorem run_app_none {P : Program} {w : World} (base : Nat) (t ty e : TypeId) (i : TypeInfo) (size : Nat) (ht : P.underlying t = some (.slice e)) (hi : P.info? e = some i)
    (v : Value) (n : Nat) (xs : List Value) (hown : w.ownsRow base e size v n xs) (c : Nat) : (Builtin.append_ #[t, t] ty #[v, .slice none 0 c]).run P w = .ok v w := by
  rcases hown.2 with ⟨rfl, rfl⟩ | ⟨g, cap, cur, rfl, _, _, hnc, _⟩
  · simp [Builtin.append_, run_underlying ht, sizeOf, typeInfo, hi, Builtin.lenOf, Builtin.firstCells]
  · simp [Builtin.append_, run_underlying ht, sizeOf, typeInfo, hi, Builtin.lenOf, Builtin.firstCells, hnc, storeCells]

/-- append of integers to integers of the call's own. -/
theorem run_appI {w0 w : World} (ty : TypeId) {v x : Value} {xs zs : List Int} (hown : OwnI w0 v xs w) (hx : IntsV w x zs) (hlim : (xs.length + zs.length) * 8 ≤ 140737488355328) :
    ∃ v' w', (Builtin.append_ #[24, 24] ty #[v, x]).run Try.prog w = .ok v' w' ∧ OwnI w0 v' (xs ++ zs) w' ∧ w.grownBy w' v.ownBlock := by
  obtain ⟨i0, hi, hz0, hz1, hz2⟩ := info_parts info3
  obtain ⟨A, c, rfl, _, hu⟩ := hx
  rcases A with _ | ad
  · have h0 : zs = [] := by
      rcases hu with h0 | ⟨b, off, e, _⟩
      · exact h0
      · cases e
    subst h0
    exact ⟨v, w, run_app_none w0.heap.size 24 ty 3 i0 1 Try.underlying24 hi v _ _ hown.1 c, by simpa using hown, rfl, rfl, rfl, Nat.le_refl _, fun _ _ _ => rfl⟩
  · have hcells : ∀ j u, (intsI zs)[j]? = some u → w.cell? (ad.add j) = some u := by
      intro j u hj
      unfold intsI at hj
      rcases hu with h0 | ⟨b, off, e, _, hc⟩
      · subst h0; simp at hj
      · cases e
        have hjl : j < zs.length := by
          have := (List.getElem?_eq_some_iff.1 hj).1
          simpa using this
        have e : (⟨b, off, none⟩ : Addr).add j = ⟨b, off + j, none⟩ := by unfold Addr.add; split <;> simp_all
        rw [e, hc j hjl]
        simp [hjl] at hj
        simp [List.getD, hjl, hj]
    obtain ⟨v', w', hr, h2, h3, _, _⟩ := run_append_own_at (P := Try.prog) w w0.heap.size 24 ty 3 i0 (.int .i64 0) 1 8 Try.underlying24 hi hz0 hz1 hz2 rfl (by decide) v xs.length _ hown.1 ad zs.length c (intsI zs) (by simp [intsI_len]) hcells
      (by intro u hu; obtain ⟨z, _, rfl⟩ := List.mem_map.1 hu; rfl) (by unfold maxLen; omega) hlim hown.2.size
    exact ⟨v', w', hr, ⟨by rw [List.length_append, show intsI (xs ++ zs) = intsI xs ++ intsI zs from List.map_append]; exact h2, hown.2.trans (grown_own hown.1 hown.2.size h3)⟩, h3⟩
theorem wpList_appI {w0 w : World} {ops : Array Oper} {rest : List Oper} {o : Oper} {a : Act} {Q : Exit → Act → World → Prop} (hgd : o.guard = none) (s x : Operand)
    (ho : o.op = .call { callee := .builtin .append, args := #[s, x], argTypes := #[24, 24] })
    {v y : Value} (hs : a.eval s = v) (hx : a.eval x = y) {xs zs : List Int} (hown : OwnI w0 v xs w) (hy : IntsV w y zs) (hlim : (xs.length + zs.length) * 8 ≤ 140737488355328)
    (h : ∀ v' w', OwnI w0 v' (xs ++ zs) w' → w.grownBy w' v.ownBlock → wpList Try.prog ops Q rest (a.put o.dst v') w') : wpList Try.prog ops Q (o :: rest) a w := by
  refine wpList_plain hgd fun K hK => ?_
  obtain ⟨v', w', hr, h2, h3⟩ := run_appI o.type hown hy hlim
  unfold Oper.wp execOp
  simp only [ho, resolve, invoke, builtin, Sem.run_bind, Sem.run_pure, Result.andThen_ok, List.map_toArray, List.map_cons, List.map_nil, hs, hx, hr]
  exact hK _ _ (h v' w' h2 h3)

/-- x's numbers do not lie in v's array. -/
def Off (v x : Value) (l : List Int) : Prop := l = [] ∨ ∀ g, v.ownBlock = some g → x.ownBlock ≠ some g
theorem IntsV.grown {w w' : World} {v x : Value} {l : List Int} (h : IntsV w x l) (ho : Off v x l) (hg : w.grownBy w' v.ownBlock) : IntsV w' x l := by
  obtain ⟨a, c, rfl, hc, h⟩ := h
  refine ⟨a, c, rfl, hc, ?_⟩
  rcases h with h | ⟨b, off, rfl, hlt, hcell⟩
  · exact .inl h
  · rcases ho with ho | ho
    · exact .inl ho
    · refine .inr ⟨b, off, rfl, Nat.lt_of_lt_of_le hlt hg.size, fun i hi => cell_blk (hg.block b hlt fun e => ho b e.symm rfl) (hcell i hi)⟩
theorem Off.grown {w : World} {v v' x : Value} {l : List Int} (h : IntsV w x l) (ho : Off v x l) (hv : v'.ownBlock = v.ownBlock ∨ v'.ownBlock = some w.heap.size) : Off v' x l := by
  rcases ho with ho | ho
  · exact .inl ho
  · rcases hv with hv | hv
    · exact .inr fun g hg => ho g (by rw [← hv]; exact hg)
    · obtain ⟨a, c, rfl, hc, h⟩ := h
      rcases h with h | ⟨b, off, rfl, hlt, hcell⟩
      · exact .inl h
      · refine .inr fun g hg e => ?_
        rw [hv] at hg
        have e1 : w.heap.size = g := by simpa using hg
        have e2 : b = g := by simpa [Value.ownBlock] using e
        omega
theorem Off.low {w : World} {v x : Value} {l : List Int} (h : IntsV w x l) (hv : ∀ g, v.ownBlock = some g → w.heap.size ≤ g) : Off v x l := by
  obtain ⟨a, c, rfl, hc, h⟩ := h
  rcases h with h | ⟨b, off, rfl, hlt, hcell⟩
  · exact .inl h
  · refine .inr fun g hg e => ?_
    have e2 : b = g := by simpa [Value.ownBlock] using e
    have := hv g hg
    omega
/-- Rows that came of appends. -/
def MadeR (B : Nat) (w : World) (v : Value) (ls : List (List Int)) : Prop :=
  ∃ vals : List Value, vals.length = ls.length ∧ w.ownsRow B 24 1 v ls.length vals ∧ ∀ (i : Nat) (x : Value) (l : List Int), vals[i]? = some x → ls[i]? = some l → IntsV w x l ∧ Off v x l
theorem MadeR.nil (B : Nat) (w : World) : MadeR B w (.slice none 0 0) [] := ⟨[], rfl, World.ownsRow_nil _ _ _ _, fun i x l h => by simp at h⟩
theorem MadeR.rows {B : Nat} {w : World} {v : Value} {ls : List (List Int)} (h : MadeR B w v ls) : RowsV w v ls := by
  obtain ⟨vals, hv, ho, hi⟩ := h
  exact RowsV.own ho rfl hv fun i x l hx hl => (hi i x l hx hl).1
theorem MadeR.below {B : Nat} {w w' : World} {v : Value} {ls : List (List Int)} (h : MadeR B w v ls) (hb : Below w.heap.size w w') : MadeR B w' v ls := by
  obtain ⟨vals, hv, ho, hi⟩ := h
  exact ⟨vals, hv, ownsRow_below ho hb, fun i x l hx hl => ⟨(hi i x l hx hl).1.below hb, (hi i x l hx hl).2⟩⟩
theorem MadeR.lt {B : Nat} {w : World} {v : Value} {ls : List (List Int)} (h : MadeR B w v ls) {g : Nat} (hg : v.ownBlock = some g) : B ≤ g ∧ g < w.heap.size := by
  obtain ⟨vals, hv, ho, hi⟩ := h
  exact ho.lt g hg
/-- A row of rows that came in, none in v's array. -/
def RowsO (w : World) (v y : Value) (ks : List (List Int)) : Prop :=
  ∃ (a : Option Addr) (c : Nat) (f : Nat → Value), y = .slice a ks.length c ∧ (ks = [] ∨ ∃ b off, a = some ⟨b, off, none⟩ ∧ ∀ i, i < ks.length → w.cell? ⟨b, off + i, none⟩ = some (f i)) ∧ ∀ i l, ks[i]? = some l → IntsV w (f i) l ∧ Off v (f i) l
theorem RowsO.one {w : World} {v x : Value} {b : Nat} {l : List Int} (hb : BoxN w b [x] 24) (h : IntsV w x l) (ho : Off v x l) : RowsO w v (.slice (some ⟨b, 0, none⟩) 1 1) [l] :=
  ⟨_, _, fun _ => x, rfl, .inr ⟨b, 0, rfl, fun i hi => by
    have : i = 0 := by simp at hi; exact hi
    subst this
    exact hb.cell rfl⟩, fun i l' hl => by
    cases i with
    | zero =>
      have e : l = l' := by simpa using hl
      subst e
      exact ⟨h, ho⟩
    | succ i => simp at hl⟩
theorem RowsO.two {w : World} {v x y : Value} {b : Nat} {l m : List Int} (hb : BoxN w b [x, y] 24) (h : IntsV w x l) (ho : Off v x l) (k : IntsV w y m) (ko : Off v y m) : RowsO w v (.slice (some ⟨b, 0, none⟩) 2 2) [l, m] :=
  ⟨_, _, fun i => if i = 0 then x else y, rfl, .inr ⟨b, 0, rfl, fun i hi => by
    have : i = 0 ∨ i = 1 := by simp at hi; omega
    rcases this with rfl | rfl
    · exact hb.cell rfl
    · exact hb.cell rfl⟩, fun i l' hl => by
    match i, hl with
    | 0, hl =>
      have e : l = l' := by simpa using hl
      subst e
      exact ⟨h, ho⟩
    | 1, hl =>
      have e : m = l' := by simpa using hl
      subst e
      exact ⟨k, ko⟩
    | i + 2, hl => simp at hl⟩
theorem RowsO.low {w0 w : World} {v y : Value} {ks : List (List Int)} (h : RowsV w0 y ks) (hb : Below w0.heap.size w0 w) (hv : ∀ g, v.ownBlock = some g → w0.heap.size ≤ g) : RowsO w v y ks := by
  obtain ⟨a, c, f, e, _, h1, h2⟩ := h
  refine ⟨a, c, f, e, ?_, fun i l hl => ⟨(h2 i l hl).below hb, Off.low (h2 i l hl) hv⟩⟩
  rcases h1 with h1 | ⟨b, off, rfl, hlt, hcell⟩
  · exact .inl h1
  · exact .inr ⟨b, off, rfl, fun i hi => cell_tr hb (hcell i hi)⟩
theorem run_appR {B : Nat} {w : World} (ty : TypeId) {v y : Value} {ls ks : List (List Int)} (h : MadeR B w v ls) (hy : RowsO w v y ks) (hlim : (ls.length + ks.length) * 24 ≤ 140737488355328) (hB : B ≤ w.heap.size) :
    ∃ v' w', (Builtin.append_ #[23, 23] ty #[v, y]).run Try.prog w = .ok v' w' ∧ MadeR B w' v' (ls ++ ks) ∧ w.grownBy w' v.ownBlock ∧ Below B w w' := by
  obtain ⟨i0, hi, hz0, hz1, hz2⟩ := info_parts info24
  obtain ⟨vals, hvl, hown, hrows⟩ := h
  obtain ⟨A, c, f, rfl, hu, hks⟩ := hy
  rcases A with _ | ad
  · have h0 : ks = [] := by
      rcases hu with h0 | ⟨b, off, e, _⟩
      · exact h0
      · cases e
    subst h0
    exact ⟨v, w, run_app_none B 23 ty 24 i0 1 Try.underlying23 hi v _ _ hown c, by rw [List.append_nil]; exact ⟨vals, hvl, hown, hrows⟩, ⟨rfl, rfl, rfl, Nat.le_refl _, fun _ _ _ => rfl⟩, Below.refl _ _⟩
  · have hcells : ∀ j u, ((List.range ks.length).map f)[j]? = some u → w.cell? (ad.add j) = some u := by
      intro j u hj
      rcases hu with h0 | ⟨b, off, e, hc⟩
      · subst h0; simp at hj
      · cases e
        have hjl : j < ks.length := by
          have := (List.getElem?_eq_some_iff.1 hj).1
          simpa using this
        have e : (⟨b, off, none⟩ : Addr).add j = ⟨b, off + j, none⟩ := by unfold Addr.add; split <;> simp_all
        rw [e, hc j hjl]
        simp [hjl] at hj
        rw [hj]
    obtain ⟨v', w', hr, h2, h3, _, h5⟩ := run_append_own_at (P := Try.prog) w B 23 ty 24 i0 (.slice none 0 0) 1 24 Try.underlying23 hi hz0 hz1 hz2 rfl (by decide) v ls.length _ hown ad ks.length c ((List.range ks.length).map f) (by simp) hcells
      (by
        intro u hu
        obtain ⟨z, hz, rfl⟩ := List.mem_map.1 hu
        have hz := List.mem_range.1 hz
        obtain ⟨a', c', e, _⟩ := (hks z _ (List.getElem?_eq_getElem hz)).1
        rw [e]
        rfl) (by unfold maxLen; omega) hlim hB
    have hall : ∀ (i : Nat) (x : Value) (l : List Int), (vals ++ (List.range ks.length).map f)[i]? = some x → (ls ++ ks)[i]? = some l → IntsV w x l ∧ Off v x l := fun i x l hx hl => by
      by_cases hil : i < ls.length
      · rw [List.getElem?_append_left (by omega)] at hx
        rw [List.getElem?_append_left hil] at hl
        exact hrows i x l hx hl
      · rw [List.getElem?_append_right (by omega)] at hx
        rw [List.getElem?_append_right (by omega)] at hl
        rw [hvl] at hx
        have hjl := (List.getElem?_eq_some_iff.1 hl).1
        simp [hjl] at hx
        rw [← hx]
        exact hks _ l hl
    exact ⟨v', w', hr, ⟨_, by simp [hvl], by rw [List.length_append]; exact h2, fun i x l hx hl => ⟨(hall i x l hx hl).1.grown (hall i x l hx hl).2 h3, Off.grown (hall i x l hx hl).1 (hall i x l hx hl).2 h5⟩⟩, h3, grown_own hown hB h3⟩
theorem wpList_appR {B : Nat} {w : World} {ops : Array Oper} {rest : List Oper} {o : Oper} {a : Act} {Q : Exit → Act → World → Prop} (hgd : o.guard = none) (s x : Operand)
    (ho : o.op = .call { callee := .builtin .append, args := #[s, x], argTypes := #[23, 23] })
    {v y : Value} (hs : a.eval s = v) (hx : a.eval x = y) {ls ks : List (List Int)} (hown : MadeR B w v ls) (hy : RowsO w v y ks) (hlim : (ls.length + ks.length) * 24 ≤ 140737488355328) (hB : B ≤ w.heap.size)
    (h : ∀ v' w', MadeR B w' v' (ls ++ ks) → Below B w w' → wpList Try.prog ops Q rest (a.put o.dst v') w') : wpList Try.prog ops Q (o :: rest) a w := by
  refine wpList_plain hgd fun K hK => ?_
  obtain ⟨v', w', hr, h2, h3, h4⟩ := run_appR o.type hown hy hlim hB
  unfold Oper.wp execOp
  simp only [ho, resolve, invoke, builtin, Sem.run_bind, Sem.run_pure, Result.andThen_ok, List.map_toArray, List.map_cons, List.map_nil, hs, hx, hr]
  exact hK _ _ (h v' w' h2 h4)
theorem MadeR.empty {B : Nat} {w : World} {b : Nat} (h : BoxN w b [] 24) (hb : B ≤ b) : MadeR B w (.slice (some ⟨b, 0, none⟩) 0 0) [] :=
  ⟨[], rfl, ⟨rfl, .inr ⟨b, 0, #[], rfl, hb, h, Nat.le_refl _, by unfold maxLen; omega, rfl, rfl⟩⟩, fun i x l h => by simp at h⟩
theorem OwnI.empty {w0 w : World} {b : Nat} (h : BoxN w b [] 3) (hb : w0.heap.size ≤ b) (hw : Below w0.heap.size w0 w) : OwnI w0 (.slice (some ⟨b, 0, none⟩) 0 0) [] w :=
  ⟨⟨rfl, .inr ⟨b, 0, #[], rfl, hb, h, Nat.le_refl _, by unfold maxLen; omega, rfl, rfl⟩⟩, hw⟩
theorem OwnI.nil (w : World) : OwnI w (.slice none 0 0) [] w := ⟨World.ownsRow_nil _ _ _ _, Below.refl _ _⟩
theorem OwnI.ints {w0 w : World} {v : Value} {zs : List Int} (h : OwnI w0 v zs w) : IntsV w v zs := IntsV.own h.1 rfl
theorem OwnI.below {w0 w w' : World} {v : Value} {zs : List Int} (h : OwnI w0 v zs w) (hb : Below w.heap.size w w') : OwnI w0 v zs w' := ⟨ownsRow_below h.1 hb, h.2.trans (below_to hb h.2.size)⟩
theorem OwnI.off {B : Nat} {w0 w : World} {v x : Value} {ls : List (List Int)} {zs : List Int} (h : MadeR B w0 v ls) (hx : OwnI w0 x zs w) : Off v x zs := .inr fun g hg e => by
  have h1 := (h.lt hg).2
  have h2 := (hx.1.lt g e).1
  omega
theorem off_new {B : Nat} {w : World} {v : Value} {ls : List (List Int)} {b n c : Nat} {zs : List Int} (h : MadeR B w v ls) (hb : w.heap.size ≤ b) : Off v (.slice (some ⟨b, 0, none⟩) n c) zs := .inr fun g hg e => by
  have h1 := (h.lt hg).2
  have e2 : b = g := by simpa [Value.ownBlock] using e
  omega
end Go.Proofs.Ytkeagjphddcjeaa
