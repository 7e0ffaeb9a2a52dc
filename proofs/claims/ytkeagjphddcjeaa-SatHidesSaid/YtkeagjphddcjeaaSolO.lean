/-
  What Solve and Core answer at the head of all statements; awake. Helper text; the conditions are those typed.
-/
import Derived.Test.YtkeagjphddcjeaaSolM
import Derived.Test.YtkeagjphddcjeaaSolN
namespace Go.Proofs.Ytkeagjphddcjeaa
set_option linter.unusedVariables false
set_option linter.unusedSimpArgs false
open Go.RowKit Go.Maps Sat

theorem Sat.Ahead.nil {v u : Asg} (h : Ahead [] v u) : False := by
  obtain ⟨i, g, h, _⟩ := h
  simp at h
theorem Sat.Ahead.cons {g : Int} {gs : List Int} {v u : Asg} (h : Ahead (g :: gs) v u) : (litB v g = true ∧ litB u g = false) ∨ (litB v g = litB u g ∧ Ahead gs v u) := by
  obtain ⟨i, g', hg, h1, h2, h3⟩ := h
  cases i with
  | zero =>
    simp only [List.getElem?_cons_zero, Option.some.injEq] at hg
    subst hg
    exact .inl ⟨h1, h2⟩
  | succ i =>
    simp only [List.getElem?_cons_succ] at hg
    exact .inr ⟨h3 0 g (by omega) rfl, i, g', hg, h1, h2, fun j g'' hj hg'' => h3 (j + 1) g'' (by omega) (by simpa using hg'')⟩
theorem Sat.Ahead.asymm {gs : List Int} {v u : Asg} (h : Ahead gs v u) (k : Ahead gs u v) : False := by
  induction gs with
  | nil => exact h.nil
  | cons g gs ih =>
    rcases h.cons with ⟨h1, h2⟩ | ⟨h1, h2⟩
    · rcases k.cons with ⟨k1, k2⟩ | ⟨k1, k2⟩
      · rw [h1] at k2; cases k2
      · rw [h1, h2] at k1; cases k1
    · rcases k.cons with ⟨k1, k2⟩ | ⟨k1, k2⟩
      · rw [k1, k2] at h1; cases h1
      · exact ih h2 k2
theorem Sat.Best.unique {n : Nat} {ls : List Cl} {pr : List Int} {v u : Asg} (h : Best n ls pr v) (k : Best n ls pr u) : ∀ i, i < n → v i = u i := fun i hi => by
  by_cases e : v i = u i
  · exact e
  · exact (Ahead.asymm (h.2 u k.1 ⟨i, hi, e⟩) (k.2 v h.1 ⟨i, hi, fun e' => e e'.symm⟩)).elim
theorem litB_p (v : Asg) : litB v 1 = v 0 := rfl
theorem litB_q (v : Asg) : litB v 2 = v 1 := rfl
theorem litB_np (v : Asg) : litB v (-1) = !v 0 := rfl
theorem litB_nq (v : Asg) : litB v (-2) = !v 1 := rfl
theorem best1 {v : Asg} (h : Best 2 [[1, 2]] [1] v) : v 0 = true ∧ v 1 = false := by
  obtain ⟨h1, h2⟩ := h
  by_cases hd : v 0 = true ∧ v 1 = false
  · exact hd
  · exfalso
    have h3 := h2 (fun i => i == 0) (fun c hc => by
      rw [List.mem_singleton.1 hc]
      exact ⟨1, by simp, rfl⟩) (by
      by_cases e : v 0 = true
      · exact ⟨1, by omega, fun e2 => hd ⟨e, e2⟩⟩
      · exact ⟨0, by omega, fun e2 => e e2⟩)
    have hg : gsOf 2 [1] = [1, -1, -2] := rfl
    rw [hg] at h3
    rcases h3.cons with ⟨a, b⟩ | ⟨a, h4⟩
    · rw [litB_p] at b; cases b
    · rw [litB_p, litB_p] at a
      rcases h4.cons with ⟨c, d⟩ | ⟨c, h5⟩
      · rw [litB_np] at c
        rw [a] at c
        cases c
      · rcases h5.cons with ⟨e, f⟩ | ⟨e, h6⟩
        · rw [litB_nq] at f; cases f
        · exact h6.nil
theorem best2 {v : Asg} (h : Best 2 [[1, 2]] [] v) : v 0 = false ∧ v 1 = true := by
  obtain ⟨h1, h2⟩ := h
  by_cases hd : v 0 = false ∧ v 1 = true
  · exact hd
  · exfalso
    have h3 := h2 (fun i => i == 1) (fun c hc => by
      rw [List.mem_singleton.1 hc]
      exact ⟨2, by simp, rfl⟩) (by
      by_cases e : v 0 = false
      · exact ⟨1, by omega, fun e2 => hd ⟨e, e2⟩⟩
      · exact ⟨0, by omega, fun e2 => e e2⟩)
    have hg : gsOf 2 [] = [-1, -2] := rfl
    rw [hg] at h3
    rcases h3.cons with ⟨a, b⟩ | ⟨a, h4⟩
    · rw [litB_np] at b; cases b
    · rw [litB_np, litB_np] at a
      have a' : v 0 = false := by simpa using a
      rcases h4.cons with ⟨c, d⟩ | ⟨c, h5⟩
      · rw [litB_nq] at c
        have c' : v 1 = false := by simpa using c
        obtain ⟨l, hl, hb⟩ := h1 [1, 2] (by simp)
        simp only [List.mem_cons, List.not_mem_nil, or_false] at hl
        rcases hl with rfl | rfl
        · rw [litB_p, a'] at hb; cases hb
        · rw [litB_q, c'] at hb; cases hb
      · exact h5.nil
theorem sat12 : ∃ v, sat v [[1, 2]] := ⟨fun _ => true, fun c hc => by
  rw [List.mem_singleton.1 hc]
  exact ⟨1, by simp, rfl⟩⟩
theorem unsat_pair {ls : List Cl} (h1 : [1] ∈ ls) (h2 : [-1] ∈ ls) : ∀ v, ¬ sat v ls := fun v hv => by
  obtain ⟨l, hl, hb⟩ := hv _ h1
  obtain ⟨l', hl', hb'⟩ := hv _ h2
  rw [List.mem_singleton.1 hl, litB_p] at hb
  rw [List.mem_singleton.1 hl', litB_np, hb] at hb'
  cases hb'
def awL : List Cl := [[2], [1], [1, 2], [-1]]
theorem unB_true {ls : List Cl} {ks : List Nat} (h : ∀ v, ¬ sat v (subL ls ks)) : unB ls ks = true := by
  unfold unB
  simpa using h
theorem unB_false {ls : List Cl} {ks : List Nat} {v : Asg} (h : sat v (subL ls ks)) : unB ls ks = false := by
  cases hu : unB ls ks with
  | false => rfl
  | true =>
    unfold unB at hu
    have h2 : ∀ v, ¬ sat v (subL ls ks) := by simpa using hu
    exact absurd h (h2 v)
theorem awCore : coreF awL = [1, 3] := by
  have c0 : coreN awL 0 = [0, 1, 2, 3] := rfl
  have c1 : coreN awL 1 = [1, 2, 3] := by
    show coreS awL (coreN awL 0) 0 = _
    rw [c0]
    unfold coreS
    rw [show [0, 1, 2, 3].filter (· != 0) = [1, 2, 3] from rfl, unB_true (unsat_pair (by simp [subL, awL]) (by simp [subL, awL]))]
    rfl
  have c2 : coreN awL 2 = [1, 2, 3] := by
    show coreS awL (coreN awL 1) 1 = _
    rw [c1]
    unfold coreS
    rw [show [1, 2, 3].filter (· != 1) = [2, 3] from rfl, unB_false (v := fun i => i == 1) (fun c hc => by
      simp only [subL, awL, List.map_cons, List.map_nil, List.getD_cons_succ, List.getD_cons_zero, List.mem_cons, List.not_mem_nil, or_false] at hc
      rcases hc with rfl | rfl
      · exact ⟨2, by simp, rfl⟩
      · exact ⟨-1, by simp, rfl⟩)]
    rfl
  have c3 : coreN awL 3 = [1, 3] := by
    show coreS awL (coreN awL 2) 2 = _
    rw [c2]
    unfold coreS
    rw [show [1, 2, 3].filter (· != 2) = [1, 3] from rfl, unB_true (unsat_pair (by simp [subL, awL]) (by simp [subL, awL]))]
    rfl
  show coreS awL (coreN awL 3) 3 = _
  rw [c3]
  unfold coreS
  rw [show [1, 3].filter (· != 3) = [1] from rfl, unB_false (v := fun i => true) (fun c hc => by
    simp only [subL, awL, List.map_cons, List.map_nil, List.getD_cons_succ, List.getD_cons_zero, List.mem_cons, List.not_mem_nil, or_false] at hc
    subst hc
    exact ⟨1, by simp, rfl⟩)]
  rfl

theorem IntsV.box {W : World} {b k : Nat} {zs : List Int} (h : BoxN W b (intsI zs) 3) (hk : k = zs.length) : IntsV W (.slice (some ⟨b, 0, none⟩) k k) zs := by
  subst hk
  exact ⟨_, _, rfl, Nat.le_refl _, .inr ⟨b, 0, rfl, h.lt, fun i hi => by
    rw [Nat.zero_add]
    exact h.cell (by unfold intsI; simp [List.getD, List.getElem?_eq_getElem hi])⟩⟩
theorem RowsV.box {W : World} {b k : Nat} {vals : List Value} {ls : List (List Int)} (h : BoxN W b vals 24) (hk : k = ls.length) (hv : vals.length = ls.length) (hi : ∀ (i : Nat) (x : Value) (l : List Int), vals[i]? = some x → ls[i]? = some l → IntsV W x l) : RowsV W (.slice (some ⟨b, 0, none⟩) k k) ls := by
  subst hk
  refine ⟨_, _, fun i => vals.getD i (.slice none 0 0), rfl, Nat.le_refl _, .inr ⟨b, 0, rfl, h.lt, fun i hi' => ?_⟩, fun i l hl => ?_⟩
  · rw [Nat.zero_add]
    refine h.cell ?_
    have : i < vals.length := by omega
    simp [List.getD, List.getElem?_eq_getElem this]
  · have h2 := (List.getElem?_eq_some_iff.1 hl).1
    have : i < vals.length := by omega
    exact hi i _ l (by simp [List.getD, List.getElem?_eq_getElem this]) hl

theorem BoolsV.row {W : World} {b k : Nat} {zs : List Bool} (h : BoxN W b (zs.map Value.bool) 4) (hk : k = zs.length) : BoolsV W (.slice (some ⟨b, 0, none⟩) k k) zs := by
  subst hk
  exact ⟨_, _, rfl, Nat.le_refl _, .inr ⟨b, 0, rfl, h.lt, fun i hi => by
    rw [Nat.zero_add]
    exact h.cell (by simp [List.getD, List.getElem?_eq_getElem hi])⟩⟩
/-- Two rows that were built: a row of one row. -/
theorem built1 (w : World) (zs : List Int) (k : Nat) (hk : k = zs.length) {W : World} (hW : Below ((w.alloc (.cells (intsI zs).toArray 3)).alloc (.cells #[.slice (some ⟨w.heap.size, 0, none⟩) k k] 24)).heap.size ((w.alloc (.cells (intsI zs).toArray 3)).alloc (.cells #[.slice (some ⟨w.heap.size, 0, none⟩) k k] 24)) W) : RowsV W (.slice (some ⟨w.heap.size + 1, 0, none⟩) 1 1) [zs] := by
  refine RowsV.below ?_ hW
  have h1 : (w.alloc (.cells (intsI zs).toArray 3)).heap.size = w.heap.size + 1 := by simp
  refine RowsV.box (vals := [.slice (some ⟨w.heap.size, 0, none⟩) k k]) (by rw [← h1]; exact boxN_alloc _ _ _) rfl rfl fun i x l hx hl => ?_
  cases i with
  | zero =>
    simp only [List.getElem?_cons_zero, Option.some.injEq] at hx hl
    subst hx hl
    exact (IntsV.box (boxN_alloc w (intsI zs) 3) hk).below (below1 _ _)
  | succ i => simp at hx
theorem bools_of {W : World} {g : Nat} {v : Asg} {zs : List Bool} (h : BoxF W g 2 (fun u => .bool (v u)) 4) (hz : zs = [v 0, v 1]) : BoolsV W (.slice (some ⟨g, 0, none⟩) 2 2) zs := by
  subst hz
  exact BoolsV.box h
theorem aw1 (w : World) : Calls Try.prog 14 #[.int .i64 2, .slice (some ⟨w.heap.size + 1, 0, none⟩) 1 1, .slice (some ⟨w.heap.size + 1 + 1, 0, none⟩) 1 1] (((w.alloc (.cells #[.int .i64 1, .int .i64 2] 3)).alloc (.cells #[.slice (some ⟨w.heap.size, 0, none⟩) 2 2] 24)).alloc (.cells #[.int .i64 1] 3))
    fun e w' => ∃ v, e = .returned (.tuple #[v, .bool true, .int .i64 0]) ∧ Below w.heap.size w w' ∧ BoolsV w' v [true, false] := by
  have hs : ((w.alloc (.cells #[.int .i64 1, .int .i64 2] 3)).alloc (.cells #[.slice (some ⟨w.heap.size, 0, none⟩) 2 2] 24)).heap.size = w.heap.size + 1 + 1 := by simp
  have hb := (below2 w (.cells #[.int .i64 1, .int .i64 2] 3) (.cells #[.slice (some ⟨w.heap.size, 0, none⟩) 2 2] 24))
  have hb3 := below1 ((w.alloc (.cells #[.int .i64 1, .int .i64 2] 3)).alloc (.cells #[.slice (some ⟨w.heap.size, 0, none⟩) 2 2] 24)) (.cells #[.int .i64 1] 3)
  have i1 : IntsV (((w.alloc (.cells #[.int .i64 1, .int .i64 2] 3)).alloc (.cells #[.slice (some ⟨w.heap.size, 0, none⟩) 2 2] 24)).alloc (.cells #[.int .i64 1] 3)) (.slice (some ⟨w.heap.size + 1 + 1, 0, none⟩) 1 1) [1] := by
    rw [← hs]
    exact IntsV.box (boxN_alloc _ (intsI [1]) 3) rfl
  have h := solve_c (n := 2) (by omega) (built1 w [1, 2] 2 rfl hb3) i1 (by simp) (by simp) (by simp) (by decide) (.inl (by decide))
  refine h.mono fun e w' ⟨h1, h2⟩ => ?_
  have hbw := hb.trans (below_to (hb3.trans (below_to h1 hb3.size)) hb.size)
  rcases h2 with ⟨g, v, he, _, hbx, hbest⟩ | ⟨_, hun⟩
  · obtain ⟨h3, h4⟩ := best1 hbest
    exact ⟨_, he, hbw, bools_of hbx (by rw [h3, h4])⟩
  · obtain ⟨v, hv⟩ := sat12
    exact absurd hv (hun v)
theorem aw2 (w : World) : Calls Try.prog 14 #[.int .i64 2, .slice (some ⟨w.heap.size + 1, 0, none⟩) 1 1, .slice none 0 0] ((w.alloc (.cells #[.int .i64 1, .int .i64 2] 3)).alloc (.cells #[.slice (some ⟨w.heap.size, 0, none⟩) 2 2] 24))
    fun e w' => ∃ v, e = .returned (.tuple #[v, .bool true, .int .i64 0]) ∧ Below w.heap.size w w' ∧ BoolsV w' v [false, true] := by
  have hb := (below2 w (.cells #[.int .i64 1, .int .i64 2] 3) (.cells #[.slice (some ⟨w.heap.size, 0, none⟩) 2 2] 24))
  have h := solve_c (n := 2) (by omega) (built1 w [1, 2] 2 rfl (Below.refl _ _)) (IntsV.nil _) (by simp) (by simp) (by simp) (by decide) (.inl (by decide))
  refine h.mono fun e w' ⟨h1, h2⟩ => ?_
  have hbw := hb.trans (below_to h1 hb.size)
  rcases h2 with ⟨g, v, he, _, hbx, hbest⟩ | ⟨_, hun⟩
  · obtain ⟨h3, h4⟩ := best2 hbest
    exact ⟨_, he, hbw, bools_of hbx (by rw [h3, h4])⟩
  · obtain ⟨v, hv⟩ := sat12
    exact absurd hv (hun v)
theorem aw3 (w : World) : Calls Try.prog 14 #[.int .i64 2, .slice (some ⟨w.heap.size + 1 + 1, 0, none⟩) 2 2, .slice none 0 0] (((w.alloc (.cells #[.int .i64 1] 3)).alloc (.cells #[.int .i64 (-1)] 3)).alloc (.cells #[.slice (some ⟨w.heap.size, 0, none⟩) 1 1, .slice (some ⟨w.heap.size + 1, 0, none⟩) 1 1] 24))
    fun e w' => e = .returned (.tuple #[.slice none 0 0, .bool false, .int .i64 0]) ∧ Below w.heap.size w w' := by
  have s1 : (w.alloc (.cells #[.int .i64 1] 3)).heap.size = w.heap.size + 1 := by simp
  have s2 : ((w.alloc (.cells #[.int .i64 1] 3)).alloc (.cells #[.int .i64 (-1)] 3)).heap.size = w.heap.size + 1 + 1 := by simp
  have b1 := below1 w (.cells #[.int .i64 1] 3)
  have b2 := below1 (w.alloc (.cells #[.int .i64 1] 3)) (.cells #[.int .i64 (-1)] 3)
  have b3 := below1 ((w.alloc (.cells #[.int .i64 1] 3)).alloc (.cells #[.int .i64 (-1)] 3)) (.cells #[.slice (some ⟨w.heap.size, 0, none⟩) 1 1, .slice (some ⟨w.heap.size + 1, 0, none⟩) 1 1] 24)
  have i1 := ((IntsV.box (k := 1) (zs := [1]) (boxN_alloc w (intsI [1]) 3) rfl).below b2).below b3
  have i2 := (IntsV.box (k := 1) (zs := [-1]) (boxN_alloc (w.alloc (.cells #[.int .i64 1] 3)) (intsI [-1]) 3) rfl).below b3
  rw [s1] at i2
  have hr : RowsV (((w.alloc (.cells #[.int .i64 1] 3)).alloc (.cells #[.int .i64 (-1)] 3)).alloc (.cells #[.slice (some ⟨w.heap.size, 0, none⟩) 1 1, .slice (some ⟨w.heap.size + 1, 0, none⟩) 1 1] 24)) (.slice (some ⟨w.heap.size + 1 + 1, 0, none⟩) 2 2) [[1], [-1]] :=
    RowsV.box (vals := [.slice (some ⟨w.heap.size, 0, none⟩) 1 1, .slice (some ⟨w.heap.size + 1, 0, none⟩) 1 1]) (by rw [← s2]; exact boxN_alloc _ _ _) rfl rfl fun i x l hx hl => by
      match i, hx, hl with
      | 0, hx, hl => simp only [List.getElem?_cons_zero, Option.some.injEq] at hx hl; subst hx hl; exact i1
      | 1, hx, hl => simp only [List.getElem?_cons_succ, List.getElem?_cons_zero, Option.some.injEq] at hx hl; subst hx hl; exact i2
      | i + 2, hx, hl => simp at hx
  have h := solve_c (n := 2) (by omega) hr (IntsV.nil _) (by simp) (by simp) (by simp) (by decide) (.inl (by decide))
  refine h.mono fun e w' ⟨h1, h2⟩ => ?_
  have hbw := below_tr (below_tr (below_tr b1 b2) b3) h1
  rcases h2 with ⟨g, v, he, _, hbx, hbest⟩ | ⟨he, hun⟩
  · exact absurd hbest.1 (unsat_pair (by simp) (by simp) v)
  · exact ⟨he, hbw⟩
theorem aw4 (w : World) : Calls Try.prog 18 #[.int .i64 2, .slice (some ⟨w.heap.size + 1 + 1 + 1 + 1, 0, none⟩) 4 4] (((((w.alloc (.cells #[.int .i64 2] 3)).alloc (.cells #[.int .i64 1] 3)).alloc (.cells #[.int .i64 1, .int .i64 2] 3)).alloc (.cells #[.int .i64 (-1)] 3)).alloc (.cells #[.slice (some ⟨w.heap.size, 0, none⟩) 1 1, .slice (some ⟨w.heap.size + 1, 0, none⟩) 1 1, .slice (some ⟨w.heap.size + 1 + 1, 0, none⟩) 2 2, .slice (some ⟨w.heap.size + 1 + 1 + 1, 0, none⟩) 1 1] 24))
    fun e w' => ∃ v, e = .returned (.tuple #[v, .bool true, .int .i64 0]) ∧ Below w.heap.size w w' ∧ IntsV w' v [1, 3] := by
  obtain ⟨wa, ha⟩ : ∃ x, w.alloc (.cells #[.int .i64 2] 3) = x := ⟨_, rfl⟩
  obtain ⟨wb, hb⟩ : ∃ x, wa.alloc (.cells #[.int .i64 1] 3) = x := ⟨_, rfl⟩
  obtain ⟨wc, hc⟩ : ∃ x, wb.alloc (.cells #[.int .i64 1, .int .i64 2] 3) = x := ⟨_, rfl⟩
  obtain ⟨wd, hd⟩ : ∃ x, wc.alloc (.cells #[.int .i64 (-1)] 3) = x := ⟨_, rfl⟩
  rw [ha, hb, hc, hd]
  have s1 : wa.heap.size = w.heap.size + 1 := by rw [← ha]; simp
  have s2 : wb.heap.size = w.heap.size + 1 + 1 := by rw [← hb, ← s1]; simp
  have s3 : wc.heap.size = w.heap.size + 1 + 1 + 1 := by rw [← hc, ← s2]; simp
  have s4 : wd.heap.size = w.heap.size + 1 + 1 + 1 + 1 := by rw [← hd, ← s3]; simp
  have b1 : Below w.heap.size w wa := by rw [← ha]; exact below1 _ _
  have b2 : Below wa.heap.size wa wb := by rw [← hb]; exact below1 _ _
  have b3 : Below wb.heap.size wb wc := by rw [← hc]; exact below1 _ _
  have b4 : Below wc.heap.size wc wd := by rw [← hd]; exact below1 _ _
  obtain ⟨we, he⟩ : ∃ x, wd.alloc (.cells #[.slice (some ⟨w.heap.size, 0, none⟩) 1 1, .slice (some ⟨w.heap.size + 1, 0, none⟩) 1 1, .slice (some ⟨w.heap.size + 1 + 1, 0, none⟩) 2 2, .slice (some ⟨w.heap.size + 1 + 1 + 1, 0, none⟩) 1 1] 24) = x := ⟨_, rfl⟩
  have b5 : Below wd.heap.size wd we := by rw [← he]; exact below1 _ _
  have hbox : BoxN we (w.heap.size + 1 + 1 + 1 + 1) [.slice (some ⟨w.heap.size, 0, none⟩) 1 1, .slice (some ⟨w.heap.size + 1, 0, none⟩) 1 1, .slice (some ⟨w.heap.size + 1 + 1, 0, none⟩) 2 2, .slice (some ⟨w.heap.size + 1 + 1 + 1, 0, none⟩) 1 1] 24 := by
    rw [← he, ← s4]
    exact boxN_alloc _ _ _
  rw [he]
  have i1 : IntsV we (.slice (some ⟨w.heap.size, 0, none⟩) 1 1) [2] := by
    refine (((IntsV.below ?_ b2).below b3).below b4).below b5
    rw [← ha]
    exact IntsV.box (boxN_alloc w (intsI [2]) 3) rfl
  have i2 : IntsV we (.slice (some ⟨w.heap.size + 1, 0, none⟩) 1 1) [1] := by
    refine ((IntsV.below ?_ b3).below b4).below b5
    rw [← hb, ← s1]
    exact IntsV.box (boxN_alloc wa (intsI [1]) 3) rfl
  have i3 : IntsV we (.slice (some ⟨w.heap.size + 1 + 1, 0, none⟩) 2 2) [1, 2] := by
    refine (IntsV.below ?_ b4).below b5
    rw [← hc, ← s2]
    exact IntsV.box (boxN_alloc wb (intsI [1, 2]) 3) rfl
  have i4 : IntsV we (.slice (some ⟨w.heap.size + 1 + 1 + 1, 0, none⟩) 1 1) [-1] := by
    refine IntsV.below ?_ b5
    rw [← hd, ← s3]
    exact IntsV.box (boxN_alloc wc (intsI [-1]) 3) rfl
  have hr : RowsV we (.slice (some ⟨w.heap.size + 1 + 1 + 1 + 1, 0, none⟩) 4 4) awL :=
    RowsV.box hbox rfl rfl fun i x l hx hl => by
      match i, hx, hl with
      | 0, hx, hl => simp only [awL, List.getElem?_cons_zero, Option.some.injEq] at hx hl; subst hx hl; exact i1
      | 1, hx, hl => simp only [awL, List.getElem?_cons_succ, List.getElem?_cons_zero, Option.some.injEq] at hx hl; subst hx hl; exact i2
      | 2, hx, hl => simp only [awL, List.getElem?_cons_succ, List.getElem?_cons_zero, Option.some.injEq] at hx hl; subst hx hl; exact i3
      | 3, hx, hl => simp only [awL, List.getElem?_cons_succ, List.getElem?_cons_zero, Option.some.injEq] at hx hl; subst hx hl; exact i4
      | i + 4, hx, hl => simp at hx
  have h := core_c (n := 2) (by omega) hr (by decide) (by simp [awL]) (by decide) (by decide)
  refine h.mono fun e w' ⟨h1, h2⟩ => ?_
  have hbw := below_tr (below_tr (below_tr (below_tr (below_tr b1 b2) b3) b4) b5) h1
  rcases h2 with ⟨⟨v, hv⟩, _⟩ | ⟨_, vv, he, hrow⟩
  · exact absurd hv (unsat_pair (by simp [awL]) (by simp [awL]) v)
  · rw [awCore] at hrow
    exact ⟨vv, he, hbw, IntsV.own (zs := [1, 3]) hrow rfl⟩

def AwakePost (w : World) (e : Ending) (w' : World) : Prop := e = .returned (.bool true) ∧ Below w.heap.size w w'
set_option maxHeartbeats 8000000 in
set_option maxRecDepth 100000 in
theorem awake_c (w : World) : Calls Try.prog 11 #[] w (AwakePost w) := by
  obtain ⟨Q, hQ⟩ : ∃ Q, AwakePost w = Q := ⟨_, rfl⟩
  rw [hQ]
  replace hQ := Lib.hid hQ
  have A1 := Lib.hid aw1
  have A2 := Lib.hid aw2
  have A3 := Lib.hid aw3
  have A4 := Lib.hid aw4
  go_enter Try.func11, Try.ntmps11
  go_wp2_with fail
  refine (A1.out w).mono ?_
  rintro e w1 ⟨v1, rfl, hb1, hv1⟩
  have H1 : Hid (Below w.heap.size w w1 ∧ BoolsV w1 v1 [true, false]) := ⟨hb1, hv1⟩
  clear hb1 hv1
  go_wp2_with fail
  refine (A2.out w1).mono ?_
  rintro e w2 ⟨v2, rfl, hb2, hv2⟩
  have H2 : Hid (Below w.heap.size w w2 ∧ BoolsV w2 v1 [true, false] ∧ BoolsV w2 v2 [false, true]) := ⟨below_tr H1.out.1 hb2, H1.out.2.below hb2, hv2⟩
  clear hb2 hv2
  go_wp2_with fail
  refine (A3.out w2).mono ?_
  rintro e w3 ⟨rfl, hb3⟩
  have H3 : Hid (Below w.heap.size w w3 ∧ BoolsV w3 v1 [true, false] ∧ BoolsV w3 v2 [false, true]) := ⟨below_tr H2.out.1 hb3, H2.out.2.1.below hb3, H2.out.2.2.below hb3⟩
  clear hb3
  go_wp2_with fail
  refine (A4.out w3).mono ?_
  rintro e w4 ⟨v4, rfl, hb4, hv4⟩
  have H4 : Hid (Below w.heap.size w w4 ∧ BoolsV w4 v1 [true, false] ∧ BoolsV w4 v2 [false, true] ∧ IntsV w4 v4 [1, 3]) := ⟨below_tr H3.out.1 hb4, H3.out.2.1.below hb4, H3.out.2.2.below hb4, hv4⟩
  clear hb4 hv4
  go_wp2_with fail
  have hb5 := below1 w4 (.cells #[.bool true, .bool false] 4)
  have S1 := sameB_c (H4.out.2.1.below hb5) (BoolsV.row (k := 2) (zs := [true, false]) (boxN_alloc w4 [.bool true, .bool false] 4) rfl) (by decide) (by decide)
  have H5 : Hid (Below w.heap.size w (w4.alloc (.cells #[.bool true, .bool false] 4)) ∧ BoolsV (w4.alloc (.cells #[.bool true, .bool false] 4)) v2 [false, true] ∧ IntsV (w4.alloc (.cells #[.bool true, .bool false] 4)) v4 [1, 3]) := ⟨below_tr H4.out.1 hb5, H4.out.2.2.1.below hb5, H4.out.2.2.2.below hb5⟩
  have HS1 := Lib.hid S1
  clear hb5 S1
  refine HS1.out.mono ?_
  rintro e w5 ⟨rfl, n5, hw5⟩
  have H6 : Hid (Below w.heap.size w w5 ∧ BoolsV w5 v2 [false, true] ∧ IntsV w5 v4 [1, 3]) := by
    rw [hw5]
    have hb := below_dr (Below.refl (w4.alloc (.cells #[.bool true, .bool false] 4)).heap.size (w4.alloc (.cells #[.bool true, .bool false] 4))) n5
    exact ⟨below_tr H5.out.1 hb, H5.out.2.1.below hb, H5.out.2.2.below hb⟩
  rw [show decide (([true, false] : List Bool) = [true, false]) = true from rfl]
  clear hw5 HS1
  go_wp2_with fail
  have hb6 := below1 w5 (.cells #[.bool false, .bool true] 4)
  have S2 := Lib.hid (sameB_c (H6.out.2.1.below hb6) (BoolsV.row (k := 2) (zs := [false, true]) (boxN_alloc w5 [.bool false, .bool true] 4) rfl) (by decide) (by decide))
  have H7 : Hid (Below w.heap.size w (w5.alloc (.cells #[.bool false, .bool true] 4)) ∧ IntsV (w5.alloc (.cells #[.bool false, .bool true] 4)) v4 [1, 3]) := ⟨below_tr H6.out.1 hb6, H6.out.2.2.below hb6⟩
  clear hb6
  refine S2.out.mono ?_
  rintro e w6 ⟨rfl, n6, hw6⟩
  have H8 : Hid (Below w.heap.size w w6 ∧ IntsV w6 v4 [1, 3]) := by
    rw [hw6]
    have hb := below_dr (Below.refl (w5.alloc (.cells #[.bool false, .bool true] 4)).heap.size (w5.alloc (.cells #[.bool false, .bool true] 4))) n6
    exact ⟨below_tr H7.out.1 hb, H7.out.2.below hb⟩
  rw [show decide (([false, true] : List Bool) = [false, true]) = true from rfl]
  clear hw6 S2
  go_wp2_with fail
  have hb7 := below1 w6 (.cells #[.int .i64 1, .int .i64 3] 3)
  have S3 := Lib.hid (sameI_c (H8.out.2.below hb7) (IntsV.box (k := 2) (zs := [1, 3]) (boxN_alloc w6 [.int .i64 1, .int .i64 3] 3) rfl) (by decide) (by decide))
  have H9 : Hid (Below w.heap.size w (w6.alloc (.cells #[.int .i64 1, .int .i64 3] 3))) := below_tr H8.out.1 hb7
  clear hb7
  refine S3.out.mono ?_
  rintro e w7 ⟨rfl, n7, hw7⟩
  have H10 : Hid (Below w.heap.size w w7) := by
    rw [hw7]
    exact below_dr H9.out n7
  rw [show decide (([1, 3] : List Int) = [1, 3]) = true from rfl]
  clear hw7 S3
  have HF : Hid (Q (.returned (.bool true)) w7) := by
    rw [← hQ.out]
    exact ⟨rfl, H10.out⟩
  go_wp2_with fail
  exact HF.out
end Go.Proofs.Ytkeagjphddcjeaa
