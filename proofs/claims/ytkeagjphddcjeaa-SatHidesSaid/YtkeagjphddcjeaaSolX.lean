/-
  folded once more: each row in memory of its own. Helper text; the conditions are those typed.
-/
import Derived.Test.YtkeagjphddcjeaaSolR
namespace Go.Proofs.Ytkeagjphddcjeaa
set_option linter.unusedVariables false
set_option linter.unusedSimpArgs false
open Go.RowKit Go.Maps Go.Shelf Go.Sort Sat

/-- A row that lies from block B on, or is empty. -/
def NewB (B : Nat) (x : Value) (l : List Int) : Prop := l = [] ∨ ∀ g, x.ownBlock = some g → B ≤ g
theorem new_of {w0 w : World} {B : Nat} {v : Value} {l : List Int} (h : OwnI w0 v l w) (hB : B ≤ w0.heap.size) : NewB B v l := .inr fun g hg => Nat.le_trans hB (h.1.lt g hg).1
/-- Rows that came of appends, each from block B on. -/
def MadeN (B : Nat) (w : World) (v : Value) (ls : List (List Int)) : Prop :=
  ∃ vals : List Value, vals.length = ls.length ∧ w.ownsRow B 24 1 v ls.length vals ∧ ∀ (i : Nat) (x : Value) (l : List Int), vals[i]? = some x → ls[i]? = some l → IntsV w x l ∧ Off v x l ∧ NewB B x l
theorem MadeN.nil (B : Nat) (w : World) : MadeN B w (.slice none 0 0) [] := ⟨[], rfl, World.ownsRow_nil _ _ _ _, fun i x l h => by simp at h⟩
theorem MadeN.rows {B : Nat} {w : World} {v : Value} {ls : List (List Int)} (h : MadeN B w v ls) : MadeR B w v ls := by
  obtain ⟨vals, hv, ho, hi⟩ := h
  exact ⟨vals, hv, ho, fun i x l hx hl => ⟨(hi i x l hx hl).1, (hi i x l hx hl).2.1⟩⟩
theorem MadeN.below {B : Nat} {w w' : World} {v : Value} {ls : List (List Int)} (h : MadeN B w v ls) (hb : Below w.heap.size w w') : MadeN B w' v ls := by
  obtain ⟨vals, hv, ho, hi⟩ := h
  exact ⟨vals, hv, ownsRow_below ho hb, fun i x l hx hl => ⟨(hi i x l hx hl).1.below hb, (hi i x l hx hl).2⟩⟩
def RowsN (B : Nat) (w : World) (v y : Value) (ks : List (List Int)) : Prop :=
  ∃ (a : Option Addr) (c : Nat) (f : Nat → Value), y = .slice a ks.length c ∧ (ks = [] ∨ ∃ b off, a = some ⟨b, off, none⟩ ∧ ∀ i, i < ks.length → w.cell? ⟨b, off + i, none⟩ = some (f i)) ∧ ∀ i l, ks[i]? = some l → IntsV w (f i) l ∧ Off v (f i) l ∧ NewB B (f i) l
theorem RowsN.one {B : Nat} {w : World} {v x : Value} {b : Nat} {l : List Int} (hb : BoxN w b [x] 24) (h : IntsV w x l) (ho : Off v x l) (hn : NewB B x l) : RowsN B w v (.slice (some ⟨b, 0, none⟩) 1 1) [l] :=
  ⟨_, _, fun _ => x, rfl, .inr ⟨b, 0, rfl, fun i hi => by
    have : i = 0 := by simp at hi; exact hi
    subst this
    exact hb.cell rfl⟩, fun i l' hl => by
    cases i with
    | zero =>
      have e : l = l' := by simpa using hl
      subst e
      exact ⟨h, ho, hn⟩
    | succ i => simp at hl⟩
/-- To a row that is older than all of them. -/
theorem MadeN.rowsO {B : Nat} {w : World} {v y : Value} {ks : List (List Int)} (h : MadeN B w y ks) (hv : ∀ g, v.ownBlock = some g → g < B) : RowsO w v y ks := by
  obtain ⟨vals, hvl, ho, hi⟩ := h
  rcases ownsRow_form ho with ⟨rfl, h0⟩ | ⟨g, cap, rfl, h1, _⟩
  · have : ks = [] := List.eq_nil_of_length_eq_zero h0
    subst this
    exact ⟨none, 0, fun _ => .slice none 0 0, rfl, .inl rfl, fun i l hl => by simp at hl⟩
  · refine ⟨some ⟨g, 0, none⟩, cap, fun i => vals.getD i (.slice none 0 0), rfl, .inr ⟨g, 0, rfl, fun i hi => ?_⟩, fun i l hl => ?_⟩
    · rw [Nat.zero_add]
      refine ownsRow_cell ho ?_
      have : i < vals.length := by omega
      simp [List.getD, List.getElem?_eq_getElem this]
    · have h2 := (List.getElem?_eq_some_iff.1 hl).1
      have : i < vals.length := by omega
      obtain ⟨k1, k2, k3⟩ := hi i (vals.getD i (.slice none 0 0)) l (by simp [List.getD, List.getElem?_eq_getElem this]) hl
      refine ⟨k1, ?_⟩
      rcases k3 with k3 | k3
      · exact .inl k3
      · refine .inr fun g' hg' e => ?_
        have := hv g' hg'
        have := k3 g' e
        omega
theorem run_appN {B : Nat} {w : World} (ty : TypeId) {v y : Value} {ls ks : List (List Int)} (h : MadeN B w v ls) (hy : RowsN B w v y ks) (hlim : (ls.length + ks.length) * 24 ≤ 140737488355328) (hB : B ≤ w.heap.size) :
    ∃ v' w', (Builtin.append_ #[23, 23] ty #[v, y]).run Try.prog w = .ok v' w' ∧ MadeN B w' v' (ls ++ ks) ∧ w.grownBy w' v.ownBlock ∧ Below B w w' := by
  obtain ⟨i0, hi, hz0, hz1, hz2⟩ := info_parts info24
  obtain ⟨vals, hvl, hown, hrows⟩ := h
  obtain ⟨A, c, f, rfl, hu, hks⟩ := hy
  rcases A with _ | ad
  · have h0 : ks = [] := by
      rcases hu with h0 | ⟨b, off, e, _⟩
      · exact h0
      · cases e
    subst h0
    exact ⟨v, w, run_app_none B 23 ty 24 i0 1 Try.underlying23 hi v _ _ hown c, by rw [List.append_nil]; exact ⟨vals, hvl, hown, hrows⟩, ⟨rfl, rfl, rfl, Nat.le_refl _, fun _ _ _ => rfl⟩, Below.refl _ _⟩
  · have hcells : ∀ j u, ((List.range ks.length).map f)[j]? = some u → w.cell? (ad.add j) = some u := by
      intro j u hj
      rcases hu with h0 | ⟨b, off, e, hc⟩
      · subst h0; simp at hj
      · cases e
        have hjl : j < ks.length := by
          have := (List.getElem?_eq_some_iff.1 hj).1
          simpa using this
        have e : (⟨b, off, none⟩ : Addr).add j = ⟨b, off + j, none⟩ := by unfold Addr.add; split <;> simp_all
        rw [e, hc j hjl]
        simp [hjl] at hj
        rw [hj]
    obtain ⟨v', w', hr, h2, h3, _, h5⟩ := run_append_own_at (P := Try.prog) w B 23 ty 24 i0 (.slice none 0 0) 1 24 Try.underlying23 hi hz0 hz1 hz2 rfl (by decide) v ls.length _ hown ad ks.length c ((List.range ks.length).map f) (by simp) hcells
      (by
        intro u hu
        obtain ⟨z, hz, rfl⟩ := List.mem_map.1 hu
        have hz := List.mem_range.1 hz
        obtain ⟨a', c', e, _⟩ := (hks z _ (List.getElem?_eq_getElem hz)).1
        rw [e]
        rfl) (by unfold maxLen; omega) hlim hB
    have hall : ∀ (i : Nat) (x : Value) (l : List Int), (vals ++ (List.range ks.length).map f)[i]? = some x → (ls ++ ks)[i]? = some l → IntsV w x l ∧ Off v x l ∧ NewB B x l := fun i x l hx hl => by
      by_cases hil : i < ls.length
      · rw [List.getElem?_append_left (by omega)] at hx
        rw [List.getElem?_append_left hil] at hl
        exact hrows i x l hx hl
      · rw [List.getElem?_append_right (by omega)] at hx
        rw [List.getElem?_append_right (by omega)] at hl
        rw [hvl] at hx
        have hjl := (List.getElem?_eq_some_iff.1 hl).1
        simp [hjl] at hx
        rw [← hx]
        exact hks _ l hl
    exact ⟨v', w', hr, ⟨_, by simp [hvl], by rw [List.length_append]; exact h2, fun i x l hx hl => ⟨(hall i x l hx hl).1.grown (hall i x l hx hl).2.1 h3, Off.grown (hall i x l hx hl).1 (hall i x l hx hl).2.1 h5, (hall i x l hx hl).2.2⟩⟩, h3, grown_own hown hB h3⟩
theorem wpList_appN {B : Nat} {w : World} {ops : Array Oper} {rest : List Oper} {o : Oper} {a : Act} {Q : Exit → Act → World → Prop} (hgd : o.guard = none) (s x : Operand)
    (ho : o.op = .call { callee := .builtin .append, args := #[s, x], argTypes := #[23, 23] })
    {v y : Value} (hs : a.eval s = v) (hx : a.eval x = y) {ls ks : List (List Int)} (hown : MadeN B w v ls) (hy : RowsN B w v y ks) (hlim : (ls.length + ks.length) * 24 ≤ 140737488355328) (hB : B ≤ w.heap.size)
    (h : ∀ v' w', MadeN B w' v' (ls ++ ks) → Below B w w' → wpList Try.prog ops Q rest (a.put o.dst v') w') : wpList Try.prog ops Q (o :: rest) a w := by
  refine wpList_plain hgd fun K hK => ?_
  obtain ⟨v', w', hr, h2, h3, h4⟩ := run_appN o.type hown hy hlim hB
  unfold Oper.wp execOp
  simp only [ho, resolve, invoke, builtin, Sem.run_bind, Sem.run_pure, Result.andThen_ok, List.map_toArray, List.map_cons, List.map_nil, hs, hx, hr]
  exact hK _ _ (h v' w' h2 h4)
def FoldPostN (w : World) (fs : List (List Int)) (e : Ending) (w' : World) : Prop := ∃ v, e = .returned v ∧ MadeN w.heap.size w' v fs ∧ Below w.heap.size w w'
set_option maxHeartbeats 4000000 in
theorem foldedN_c {n most : Nat} (hn1 : 1 ≤ n) (hn : n ≤ 400) (hm : most ≤ 200) {w : World} {vl : Value} {ls : List (List Int)} (hl : RowsV w vl ls) (hr : Rng ls) :
    Calls Try.prog 22 #[vl, .int .i64 (n : Int), .int .i64 (most : Int)] w (FoldPostN w (foldL n ls most)) := by
  obtain ⟨Q, hQ⟩ : ∃ Q, FoldPostN w (foldL n ls most) = Q := ⟨_, rfl⟩
  rw [hQ]
  replace hQ := Lib.hid hQ
  have HR := Lib.hid hr
  have HF := Lib.hid (fun (l : Int) (h0 : -9223372036854775808 ≤ l) (h1 : l < 9223372036854775808) (w : World) => fold_c hn1 hn h0 h1 w)
  obtain ⟨al, cl, f, hvl, hcl, hcell, hrows⟩ := hl
  subst hvl
  have HROWS := Lib.hid hrows
  obtain ⟨L, hLL⟩ : ∃ L, ls.length = L := ⟨_, rfl⟩
  have HCELL : Hid (∀ i, i < L → ∃ b off, al = some ⟨b, off, none⟩ ∧ b < w.heap.size ∧ w.cell? ⟨b, off + i, none⟩ = some (f i)) := fun i hi => by
    rcases hcell with h | ⟨b, off, h1, h2, h3⟩
    · rw [← hLL, h] at hi; cases hi
    · exact ⟨b, off, h1, h2, h3 i (by rw [hLL]; exact hi)⟩
  rw [hLL] at hcl ⊢
  have HLL := Lib.hid hLL
  clear hrows hcell hLL hr
  go_enter Try.func22, Try.ntmps22
  go_wp2_with fail
  go_loopg [7, 8] L (fun gk v7 v8 wx => ∃ (i : Nat) (vo : Value), vo = v7 ∧ v8 = .int .i64 (i : Int) ∧ i ≤ L ∧ i ≤ most ∧ L ≤ i + gk ∧ Hid (MadeN w.heap.size wx vo (foldL n ls i) ∧ Below w.heap.size w wx))
  case atStart => exact ⟨0, _, rfl, rfl, by omega, by omega, by omega, MadeN.nil _ _, Below.refl _ _⟩
  case round =>
    obtain ⟨gI, rfl⟩ : ∃ x : Nat, x = gk := ⟨_, rfl⟩
    obtain ⟨i, vo, rfl, rfl, hiL, him, hik, HM⟩ := hrel
    obtain ⟨w3, hw3⟩ : ∃ w3, wr = w3 := ⟨_, rfl⟩
    rw [hw3] at HM ⊢
    clear hw3
    have hlast : i = L ∨ i = most → Hid (Q (.returned vo) w3) := fun h => by
      show Q _ _
      rw [← hQ.out]
      have e : foldL n ls most = foldL n ls i := by
        rcases h with h | h
        · unfold foldL
          rw [List.take_of_length_le (by rw [HLL.out]; omega), List.take_of_length_le (by rw [HLL.out]; omega)]
        · rw [h]
      rw [e]
      exact ⟨vo, rfl, HM.out⟩
    by_cases hi : i < L
    · have hi1 : (i : Int) < (L : Int) := by omega
      by_cases hi2 : i < most
      · have hi3 : (i : Int) < (most : Int) := by omega
        clear hlast
        obtain ⟨c, hc⟩ : ∃ c, ls[i]? = some c := ⟨_, List.getElem?_eq_getElem (by rw [HLL.out]; exact hi)⟩
        obtain ⟨bb, off, hal, hbl, hcel⟩ := HCELL.out i hi
        obtain ⟨fa, fc, hfk, hfc, hints⟩ := HROWS.out i c hc
        obtain ⟨fn, hfn⟩ : ∃ fn, c.length = fn := ⟨_, rfl⟩
        rw [hfn] at hfk hfc
        have HC := Lib.hid hc
        have HFN := Lib.hid hfn
        rw [hfk] at hcel
        subst hal
        have HCEL := Lib.hid hcel
        have HIN : Hid (∀ k, k < fn → ∃ b o x, fa = some ⟨b, o, none⟩ ∧ c[k]? = some x ∧ w.cell? ⟨b, o + k, none⟩ = some (.int .i64 x)) := fun k hk => by
          have hk' : k < c.length := by omega
          rcases hints with h | ⟨b, o, h1, _, h3⟩
          · rw [h] at hk'; cases hk'
          · refine ⟨b, o, c[k], h1, List.getElem?_eq_getElem hk', ?_⟩
            have := h3 k hk'
            rw [List.getD, List.getElem?_eq_getElem hk'] at this
            exact this
        clear hc hfk hints hfn hcel hbl
        go_wp2_with fail
        go_loopg [9, 10] 4 (fun gk v9 v10 wx => ∃ (k : Nat) (vc : Value), vc = v9 ∧ v10 = .int .i64 (k : Int) ∧ k ≤ fn ∧ k ≤ 4 ∧ 4 ≤ k + gk ∧ Hid (OwnI w3 vc ((c.take k).map (foldZ n)) wx))
        case atStart => exact ⟨0, _, rfl, rfl, by omega, by omega, by omega, OwnI.nil _⟩
        case round =>
          obtain ⟨gJ, rfl⟩ : ∃ x : Nat, x = gk := ⟨_, rfl⟩
          obtain ⟨k, vc, rfl, rfl, hkf, hk4, hkk, HO⟩ := hrel
          obtain ⟨w4, hw4⟩ : ∃ w4, wr = w4 := ⟨_, rfl⟩
          rw [hw4] at HO ⊢
          clear hw4
          have HBW : Hid (Below w.heap.size w w4) := below_tr HM.out.2 (below_to HO.out.2 (Nat.le_refl _))
          have c1 := cell_tr HBW.out HCEL.out
          have hend : k = fn ∨ k = 4 → Hid (OwnI w3 vc (foldC n c) w4) := fun h => by
            have e : foldC n c = (c.take k).map (foldZ n) := by
              unfold foldC
              rcases h with h | h
              · rw [List.take_of_length_le (by rw [HFN.out]; omega), List.take_of_length_le (by rw [HFN.out]; omega)]
              · rw [h]
            show OwnI w3 vc (foldC n c) w4
            rw [e]
            exact HO.out
          have hdone : Hid (OwnI w3 vc (foldC n c) w4) → ∃ a7 n7 c7, vc = .slice a7 n7 c7 := fun h => by
            obtain ⟨a7, c7, e⟩ := ownsRow_slice h.out.1
            exact ⟨a7, _, c7, e⟩
          by_cases hk : k < fn
          · have hk1 : (k : Int) < (fn : Int) := by omega
            by_cases hk2 : k < 4
            · have hk3 : (k : Int) < 4 := by omega
              clear hend hdone
              obtain ⟨b, o, x, hfa, hx, hcx⟩ := HIN.out k hk
              have c2 := cell_tr HBW.out hcx
              have hxr := HR.out c (List.mem_of_getElem? HC.out) x (List.mem_of_getElem? hx)
              have HX := Lib.hid hx
              have HF2 := Lib.hid (HF.out x hxr.1 hxr.2 w4)
              subst hfa
              clear hcx hx hxr
              obtain ⟨z, hz⟩ : ∃ z, foldZ n x = z := ⟨_, rfl⟩
              rw [hz] at HF2
              have HZ := Lib.hid hz
              clear hz
              have HOW : Hid (∀ o, OwnI w3 vc ((c.take k).map (foldZ n)) (w4.alloc o)) := fun o => HO.out.below (below1 _ _)
              have HI : Hid (IntsV (w4.alloc (.cells #[.int .i64 z] 3)) (.slice (some ⟨w4.heap.size, 0, none⟩) 1 1) [z]) := ones (w := w4) (zs := [z]) rfl (Below.refl _ _) rfl
              have HL : Hid ((((c.take k).map (foldZ n)).length + 1) * 8 ≤ 140737488355328) := by
                show (((c.take k).map (foldZ n)).length + 1) * 8 ≤ 140737488355328
                have := List.length_take_le k c
                rw [List.length_map]
                omega
              go_wp2_with (first
                | (go_at_call 23; refine HF2.out.mono ?_; rintro e w5 ⟨rfl, rfl⟩)
                | (at_builtin; refine wpList_appI rfl (.tmp 35) (.tmp 45) rfl rfl rfl (HOW.out _) HI.out HL.out ?_; intro v9 w9 ho9 hg9; replace ho9 := Lib.hid ho9; clear hg9))
              go_roundg (gJ - 1)
              case measure => omega
              case rel => exact ⟨k + 1, _, rfl, by go_num, by omega, by omega, by omega, by
                show OwnI _ _ ((c.take (k + 1)).map (foldZ n)) _
                rw [fold_snoc HX.out, HZ.out]
                exact ho9.out⟩
            · have hk3 : ¬ (k : Int) < 4 := by omega
              have HE := hend (.inr (by omega))
              obtain ⟨a7, n7, c7, rfl⟩ := hdone HE
              clear hend hdone
              have HMM : Hid (∀ o, MadeN w.heap.size (w4.alloc o) vo (foldL n ls i)) := fun o => (HM.out.1.below HO.out.2).below (below1 _ _)
              have HRR : Hid (RowsN w.heap.size (w4.alloc (.cells #[.slice a7 n7 c7] 24)) vo (.slice (some ⟨w4.heap.size, 0, none⟩) 1 1) [foldC n c]) :=
                RowsN.one (boxN_alloc w4 [.slice a7 n7 c7] 24) (HE.out.ints.below (below1 _ _)) (OwnI.off HM.out.1.rows HE.out) (new_of HE.out HM.out.2.size)
              have HL : Hid (((foldL n ls i).length + 1) * 24 ≤ 140737488355328) := by
                show ((foldL n ls i).length + 1) * 24 ≤ 140737488355328
                have := foldL_len n ls i
                omega
              have HSZ : Hid (Below w.heap.size w (w4.alloc (.cells #[.slice a7 n7 c7] 24))) := below_tr HBW.out (below1 _ _)
              go_wp2_with (at_builtin; refine wpList_appN rfl (.tmp 47) (.tmp 49) rfl rfl rfl (HMM.out _) HRR.out HL.out HSZ.out.size ?_; intro v9 w9 hm9 hb9; replace hm9 := Lib.hid hm9; replace hb9 := Lib.hid hb9)
              go_roundg (gI - 1)
              case measure => omega
              case rel => exact ⟨i + 1, _, rfl, by go_num, by omega, by omega, by omega, by
                rw [foldL_succ HC.out]
                exact hm9.out, HSZ.out.trans hb9.out⟩
          · have hk3 : ¬ (k : Int) < (fn : Int) := by omega
            have HE := hend (.inl (by omega))
            obtain ⟨a7, n7, c7, rfl⟩ := hdone HE
            clear hend hdone
            have HMM : Hid (∀ o, MadeN w.heap.size (w4.alloc o) vo (foldL n ls i)) := fun o => (HM.out.1.below HO.out.2).below (below1 _ _)
            have HRR : Hid (RowsN w.heap.size (w4.alloc (.cells #[.slice a7 n7 c7] 24)) vo (.slice (some ⟨w4.heap.size, 0, none⟩) 1 1) [foldC n c]) :=
              RowsN.one (boxN_alloc w4 [.slice a7 n7 c7] 24) (HE.out.ints.below (below1 _ _)) (OwnI.off HM.out.1.rows HE.out) (new_of HE.out HM.out.2.size)
            have HL : Hid (((foldL n ls i).length + 1) * 24 ≤ 140737488355328) := by
              show ((foldL n ls i).length + 1) * 24 ≤ 140737488355328
              have := foldL_len n ls i
              omega
            have HSZ : Hid (Below w.heap.size w (w4.alloc (.cells #[.slice a7 n7 c7] 24))) := below_tr HBW.out (below1 _ _)
            go_wp2_with (at_builtin; refine wpList_appN rfl (.tmp 47) (.tmp 49) rfl rfl rfl (HMM.out _) HRR.out HL.out HSZ.out.size ?_; intro v9 w9 hm9 hb9; replace hm9 := Lib.hid hm9; replace hb9 := Lib.hid hb9)
            go_roundg (gI - 1)
            case measure => omega
            case rel => exact ⟨i + 1, _, rfl, by go_num, by omega, by omega, by omega, by
              rw [foldL_succ HC.out]
              exact hm9.out, HSZ.out.trans hb9.out⟩
      · have HQ := hlast (.inr (by omega))
        have hi3 : ¬ (i : Int) < (most : Int) := by omega
        clear hlast
        go_wp2_with fail
        exact HQ.out
    · have HQ := hlast (.inl (by omega))
      have hi3 : ¬ (i : Int) < (L : Int) := by omega
      clear hlast
      go_wp2_with fail
      exact HQ.out
end Go.Proofs.Ytkeagjphddcjeaa
