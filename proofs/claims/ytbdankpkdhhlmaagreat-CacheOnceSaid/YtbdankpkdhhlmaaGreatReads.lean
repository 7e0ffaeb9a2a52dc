/-
  A pool is asked: New, Len, Kind, Named. Helper text; the conditions are those typed.
-/
import Derived.Test.YtbdankpkdhhlmaaGreatAddP
namespace Go.Proofs.YtbdankpkdhhlmaaGreat
set_option linter.unusedVariables false
set_option linter.unusedSimpArgs false
open Go.RowKit Go.Maps

set_option maxHeartbeats 1000000 in
/-- New, of a kind that is. -/
theorem new_c (kd : Int) (hk : kd = 1 ∨ kd = 2) (B : Nat) (w : World) (hB : B ≤ w.heap.size) :
    Calls Tryz.prog 35 #[.int .i64 kd] w fun e w' => e = .returned (.tuple #[.pointer (some ⟨w.heap.size + 1, 0, none⟩), .int .i64 0]) ∧ Below w.heap.size w w' ∧ PoolIn w' B (fun b => if b = w.heap.size then .map else if b = w.heap.size + 1 then .pool else .free) (w.heap.size + 1) w.heap.size (.slice none 0 0) (.slice none 0 0) (fun _ => .slice none 0 0) kd [] [] [] := by
  have hmm := @run_makeMap Tryz.prog
  have HM := Lib.hid (PoolIn.made w B hB kd)
  have HB : Hid (Below w.heap.size w ((w.alloc (.map #[] 0)).alloc (.cells #[.int .i64 kd, .slice none 0 0, .slice none 0 0, .map (some w.heap.size)] 98))) := below2 _ _ _
  go_enter Tryz.func35, Tryz.ntmps35
  rcases hk with rfl | rfl
  · go_wp2_with fail
    refine bodyPost_ret (v := .tuple #[.pointer (some ⟨w.heap.size + 1, 0, none⟩), .int .i64 0]) (by simp [results, Tryz.results35, go_sem]) rfl ?_
    exact ⟨rfl, HB.out, HM.out⟩
  · go_wp2_with fail
    refine bodyPost_ret (v := .tuple #[.pointer (some ⟨w.heap.size + 1, 0, none⟩), .int .i64 0]) (by simp [results, Tryz.results35, go_sem]) rfl ?_
    exact ⟨rfl, HB.out, HM.out⟩
set_option maxHeartbeats 1000000 in
/-- New, of none. -/
theorem new_no (kd : Int) (h1 : (kd != 1) = true) (h2 : (kd != 2) = true) (w : World) :
    Calls Tryz.prog 35 #[.int .i64 kd] w fun e w' => e = .returned (.tuple #[.pointer none, .int .i64 1]) ∧ w = w' := by
  go_enter Tryz.func35, Tryz.ntmps35
  go_wp2_with fail
  refine bodyPost_ret (v := .tuple #[.pointer none, .int .i64 1]) (by simp [results, Tryz.results35, go_sem]) rfl ?_
  exact ⟨rfl, rfl⟩

section
variable {w : World} {B : Nat} {role : Nat → Role} {P M : Nat} {vr va : Value} {lv : ByteArray → Value} {kd : Int} {rs : List RepoH} {ks : List KeptT} {ns : List ByteArray}
theorem len_c (h : PoolIn w B role P M vr va lv kd rs ks ns) : Calls Tryz.prog 23 #[.pointer (some ⟨P, 0, none⟩)] w fun e w' => e = .returned (.int .i64 (ks.length : Int)) ∧ w = w' := by
  obtain ⟨a, c, rfl⟩ := h.arow_form
  have c2 := h.box.cell (j := 2) rfl
  clear h
  go_enter Tryz.func23, Tryz.ntmps23
  go_wp2_with fail
  go_ret
  exact ⟨rfl, rfl⟩
theorem kind_c (h : PoolIn w B role P M vr va lv kd rs ks ns) : Calls Tryz.prog 34 #[.pointer (some ⟨P, 0, none⟩)] w fun e w' => e = .returned (.int .i64 kd) ∧ w = w' := by
  have c0 := h.box.cell (j := 0) rfl
  clear h
  go_enter Tryz.func34, Tryz.ntmps34
  go_wp2_with fail
  go_ret
  exact ⟨rfl, rfl⟩

theorem cloneI_c (l : List Nat) (al : Option Addr) (nl cl : Nat) (B : Nat) (w : World) (h : w.ownsRow B 3 1 (.slice al nl cl) nl (intsL l)) (hn : nl ≤ 200) (hl : l.length = nl) :
    Calls Tryz.prog 68 #[.slice al nl cl] w fun e w' => (∃ a' c', e = .returned (.slice a' nl c') ∧ w'.ownsRow w.heap.size 3 1 (.slice a' nl c') nl (intsL l)) ∧ Below w.heap.size w w' := by
  rcases ownsRow_form h with ⟨e, h0⟩ | ⟨g, c, e, _⟩
  · cases e
    have : l = [] := List.eq_nil_of_length_eq_zero hl
    subst this
    exact (Any.slices_Clone_int_nil Tryz.layCloneI 0 0 w).mono fun e w' ⟨h1, h2⟩ => by
      subst h2
      exact ⟨⟨none, 0, h1, World.ownsRow_nil _ _ _ _⟩, Below.refl _ _⟩
  · cases e
    refine (Any.slices_Clone_int Tryz.layCloneI g 0 nl cl (l.map fun (i : Nat) => (i : Int)) w (by simp [hl]) (by omega) (fun j hj => ?_)).mono fun e w' ⟨v', h1, h2, h3, h4⟩ => ?_
    · rw [Nat.zero_add]
      refine ownsRow_cell h ?_
      rw [List.length_map] at hj
      unfold intsL
      simp [List.getD, hj]
    · rcases ownsRow_form h2 with ⟨e2, _⟩ | ⟨g', c', e2, _⟩
      · exact absurd e2 h3
      · subst e2
        refine ⟨⟨_, c', h1, ?_⟩, h4⟩
        rw [List.take_of_length_le (by simp [hl]), List.map_map] at h2
        exact h2

/-- Named. -/
theorem named_c (h : PoolIn w B role P M vr va lv kd rs ks ns) (hns : ns.length ≤ 200) (s : ByteArray) (hs : s.size ≤ maxLen) :
    Calls Tryz.prog 42 #[.pointer (some ⟨P, 0, none⟩), .string s] w fun e w' => (∃ a' c', e = .returned (.slice a' (idsOf ns s).length c') ∧ w'.ownsRow w.heap.size 3 1 (.slice a' (idsOf ns s).length c') (idsOf ns s).length (intsL (idsOf ns s))) ∧ Below w.heap.size w w' := by
  obtain ⟨al, cl, hcv, hown⟩ := h.cur s
  have hlk := h.look hs
  rw [hcv] at hlk
  have HC := Lib.hid (cloneI_c (idsOf ns s) al _ cl B w hown (Nat.le_trans (idsOf_len ns s) hns) rfl)
  have c3 := h.box.cell (j := 3) rfl
  clear hown hcv h
  generalize idsOf ns s = ids at hlk HC
  obtain ⟨nl, hnl⟩ : ∃ nl, ids.length = nl := ⟨_, rfl⟩
  rw [hnl] at hlk HC ⊢
  clear hnl
  go_enter Tryz.func42, Tryz.ntmps42
  go_wp2_with fail
  refine HC.out.mono ?_
  rintro e w2 ⟨⟨a', c', rfl, h2⟩, hb2⟩
  replace h2 := Lib.hid h2
  replace hb2 := Lib.hid hb2
  go_wp2_with fail
  go_ret
  exact ⟨⟨a', c', rfl, h2.out⟩, hb2.out⟩
end

-- no pool
theorem len_nil (w : World) : Calls Tryz.prog 23 #[.pointer none] w fun e w' => e = .returned (.int .i64 0) ∧ w = w' := by
  go_enter Tryz.func23, Tryz.ntmps23
  go_wp2_with fail
  go_ret
  exact ⟨rfl, rfl⟩
theorem kind_nil (w : World) : Calls Tryz.prog 34 #[.pointer none] w fun e w' => e = .returned (.int .i64 0) ∧ w = w' := by
  go_enter Tryz.func34, Tryz.ntmps34
  go_wp2_with fail
  go_ret
  exact ⟨rfl, rfl⟩
theorem repos_nil (w : World) : Calls Tryz.prog 28 #[.pointer none] w fun e w' => e = .returned (.slice none 0 0) ∧ w = w' := by
  go_enter Tryz.func28, Tryz.ntmps28
  go_wp2_with fail
  go_ret
  exact ⟨rfl, rfl⟩
theorem installed_nil (w : World) : Calls Tryz.prog 45 #[.pointer none] w fun e w' => e = .returned (.slice none 0 0) ∧ w = w' := by
  go_enter Tryz.func45, Tryz.ntmps45
  go_wp2_with fail
  go_ret
  exact ⟨rfl, rfl⟩
theorem named_nil (s : ByteArray) (w : World) : Calls Tryz.prog 42 #[.pointer none, .string s] w fun e w' => e = .returned (.slice none 0 0) ∧ w = w' := by
  go_enter Tryz.func42, Tryz.ntmps42
  go_wp2_with fail
  go_ret
  exact ⟨rfl, rfl⟩
set_option maxHeartbeats 1000000 in
set_option maxRecDepth 100000 in
theorem add_nil (r : Value) (w : World) (c0 c1 c2 c3 : Value) (hr : r = .agg #[c0, c1, c2, c3]) : Calls Tryz.prog 37 #[.pointer none, r] w fun e w' => e = .returned (.int .i64 1) ∧ Below w.heap.size w w' := by
  subst hr
  have HB : Hid (Below w.heap.size w (w.alloc (.cells #[c0, c1, c2, c3] 40))) := below1 _ _
  go_enter Tryz.func37, Tryz.ntmps37
  go_wp2_with fail
  go_ret
  exact ⟨rfl, HB.out⟩
end Go.Proofs.YtbdankpkdhhlmaaGreat
