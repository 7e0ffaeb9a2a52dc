/-
  The document's Unset: the walk. Helper text; the conditions are those typed.
-/
import Derived.Test.YtnplmembdfklcaaGreatDoorRefF
import Derived.Test.YtnplmembdfklcaaGreatDoorOrd2
import Derived.Maps.AppendAt
namespace Go.Proofs.YtnplmembdfklcaaGreatDoor
set_option linter.unusedVariables false
set_option linter.unusedSimpArgs false
open Go.RowKit Go.Maps

/-- A row of values in memory made since w0. -/
def OwnK (w0 : World) (v : Value) (l : List KeptT) (w : World) : Prop := w.ownsRow w0.heap.size 70 6 v l.length (l.flatMap keptCells) ∧ Below w0.heap.size w0 w ∧ v ≠ .slice none 0 0
theorem OwnK.made {w W : World} (hb : Below w.heap.size w W) : OwnK w (.slice (some ⟨W.heap.size, 0, none⟩) 0 0) [] (W.alloc (.cells #[] 70)) :=
  ⟨World.ownsRow_made W #[] 0 hb.size (Nat.zero_le _) rfl, hb.alloc hb.size _, fun e => by cases e⟩
theorem OwnK.form {w0 w : World} {v : Value} {l : List KeptT} (h : OwnK w0 v l w) : ∃ g cap, v = .slice (some ⟨g, 0, none⟩) l.length cap ∧ w0.heap.size ≤ g ∧ g < w.heap.size := by
  rcases ownsRow_form h.1 with ⟨e, _⟩ | ⟨g, cap, e, _⟩
  · exact absurd e h.2.2
  · have h1 := h.1
    rw [e] at h1
    have h2 := h1.lt g rfl
    exact ⟨g, cap, e, h2.1, h2.2⟩
theorem keptCells_one (l : List KeptT) (hsl : ∀ p ∈ l, ∃ a n c, p.sl = .slice a n c) : ∀ u ∈ l.flatMap keptCells, u.oneCell' = true := by
  intro u hu
  obtain ⟨p, hp, hu⟩ := List.mem_flatMap.1 hu
  obtain ⟨a, n, c, e⟩ := hsl p hp
  simp only [keptCells, e, List.mem_cons, List.not_mem_nil, or_false] at hu
  rcases hu with rfl | rfl | rfl | rfl | rfl | rfl <;> rfl
theorem flat_drop : ∀ (l : List KeptT) (k : Nat), (l.drop k).flatMap keptCells = (l.flatMap keptCells).drop (k * 6)
  | l, 0 => by simp
  | [], k + 1 => by simp
  | p :: l, k + 1 => by
    rw [List.drop_succ_cons, flat_drop l k, List.flatMap_cons]
    have e : (k + 1) * 6 = (keptCells p).length + k * 6 := by rw [keptCells_len]; omega
    rw [e, List.drop_append]
    simp [keptCells_len]
theorem flat_take : ∀ (l : List KeptT) (k : Nat), (l.take k).flatMap keptCells = (l.flatMap keptCells).take (k * 6)
  | l, 0 => by simp
  | [], k + 1 => by simp
  | p :: l, k + 1 => by
    rw [List.take_succ_cons, List.flatMap_cons, flat_take l k, List.flatMap_cons]
    have e : (k + 1) * 6 = (keptCells p).length + k * 6 := by rw [keptCells_len]; omega
    rw [e, List.take_append, List.take_of_length_le (l := keptCells p) (by omega)]
    simp [keptCells_len]

/-- append of values to values of the call's own. -/
theorem op_appK {w0 w : World} {o : Oper} {a : Act} {K : Act → World → Prop} {Q : Exit → Act → World → Prop} (s x : Operand)
    (ho : o.op = .call { callee := .builtin .append, args := #[s, x], argTypes := #[36, 36] })
    (v : Value) (g off n c : Nat) (xs zs : List KeptT) (hs : a.eval s = v) (hx : a.eval x = .slice (some ⟨g, off, none⟩) n c) (hown : OwnK w0 v xs w) (hn : n = zs.length) (hu : ∀ j u, (zs.flatMap keptCells)[j]? = some u → w.cell? ⟨g, off + j, none⟩ = some u) (hsl : ∀ p ∈ zs, ∃ a n c, p.sl = .slice a n c) (hlim : xs.length + zs.length ≤ 100000000)
    (h : ∀ v' w', OwnK w0 v' (xs ++ zs) w' → w.grownBy w' v.ownBlock → K (a.put o.dst v') w') : o.wp Tryz.prog a w K Q := by
  obtain ⟨i0, hi, hz0, hz1, hz2⟩ := info_parts info70
  subst hn
  have hcells : ∀ j u, (zs.flatMap keptCells)[j]? = some u → w.cell? ((⟨g, off, none⟩ : Addr).add j) = some u := by
    intro j u hj
    have e : (⟨g, off, none⟩ : Addr).add j = ⟨g, off + j, none⟩ := by unfold Addr.add; split <;> simp_all
    rw [e]
    exact hu j u hj
  obtain ⟨v', w', hr, h2, h3, h4, _⟩ := run_append_own_at (P := Tryz.prog) w w0.heap.size 36 o.type 70 i0 _ 6 80 Tryz.underlying36 hi hz0 hz1 hz2 rfl (by decide) v xs.length _ hown.1 ⟨g, off, none⟩ zs.length c (zs.flatMap keptCells) (by rw [flat_len 6 keptCells keptCells_len]) hcells
    (keptCells_one zs hsl) (by unfold maxLen; omega) (by omega) hown.2.1.size
  unfold Oper.wp execOp
  simp only [ho, resolve, invoke, builtin, Sem.run_bind, Sem.run_pure, Result.andThen_ok, List.map_toArray, List.map_cons, List.map_nil, hs, hx, hr]
  refine h v' w' ⟨by rw [List.length_append, List.flatMap_append]; exact h2, hown.2.1.grown h3 hown.2.1.size (fun k hk => (hown.1.lt k hk).1), fun e => ?_⟩ h3
  exact hown.2.2 (h4.1 e).1

/-- The values without one. -/
def runset (l : List KeptT) (id : Int) (k : ByteArray) : List KeptT := match keptIdx l id k with | some i => l.take i ++ l.drop (i + 1) | none => l
def RUnsetPost (role : Nat → Role) (w : World) (B M : Nat) (vL vK vN vD : Value) (rt : RefT) (id : Int) (k : ByteArray) (e : Ending) (w' : World) : Prop :=
  e = .returned (.int .i64 (if keptIdx rt.l id k = none then 84 else 0)) ∧ ∃ role' vL', Moved role w role' w' ∧ RefIn w' B role' M vL' vK vN vD { rt with l := runset rt.l id k }

section
variable {w : World} {B : Nat} {role : Nat → Role} {M : Nat} {vL vK vN vD : Value} {rt : RefT}
set_option maxHeartbeats 4000000 in
set_option maxRecDepth 100000 in
theorem runset_c (h : RefIn w B role M vL vK vN vD rt) (hB : B ≤ w.heap.size) (hsz : rt.l.length ≤ 4194304) (id : Int) (k : ByteArray) : Calls Tryz.prog 24 #[.pointer (some ⟨M, 0, none⟩), .int .i64 id, .string k] w (RUnsetPost role w B M vL vK vN vD rt id k) := by
  have HF := Lib.hid (find_c h id k)
  have HH := Lib.hid h
  have HB := Lib.hid hB
  cases hv : keptIdx rt.l id k with
  | none =>
    have HE : Hid (RUnsetPost role w B M vL vK vN vD rt id k (.returned (.int .i64 84)) w) := by
      unfold Hid RUnsetPost
      rw [if_pos hv]
      refine ⟨rfl, role, vL, Moved.of_below HH.out.hi (Below.refl _ _), ?_⟩
      unfold runset
      rw [hv]
      exact HH.out
    rw [hv] at HF
    simp only [idxOr] at HF
    generalize RUnsetPost role w B M vL vK vN vD rt id k = Q at HE ⊢
    have hlt : ((-1 : Int) < 0) := by decide
    clear h hv
    go_enter Tryz.func24, Tryz.ntmps24
    go_wp2_with (go_at_call 49; refine HF.out.mono ?_; rintro e w2 ⟨rfl, h2⟩; obtain rfl : w = w2 := h2.symm)
    exact HE.out
  | some i =>
    obtain ⟨hi, _, _⟩ := keptIdx_lt hv
    obtain ⟨g, cap, hvL, _⟩ := h.kept hi
    subst hvL
    have HE : Hid (∀ w' role' vL', Moved role w role' w' → RefIn w' B role' M vL' vK vN vD { rt with l := rt.l.take i ++ rt.l.drop (i + 1) } → RUnsetPost role w B M (.slice (some ⟨g, 0, none⟩) rt.l.length cap) vK vN vD rt id k (.returned (.int .i64 0)) w') := fun w' role' vL' hm hs => by
      unfold RUnsetPost
      rw [if_neg (by rw [hv]; simp)]
      refine ⟨rfl, role', vL', hm, ?_⟩
      unfold runset
      rw [hv]
      exact hs
    rw [hv] at HF
    simp only [idxOr] at HF
    generalize RUnsetPost role w B M (.slice (some ⟨g, 0, none⟩) rt.l.length cap) vK vN vD rt id k = Q at HE ⊢
    have HSL : Hid (∀ p ∈ rt.l, ∃ a n c, p.sl = .slice a n c) := fun p hp => by
      obtain ⟨a, c, e, _⟩ := h.cont p hp
      exact ⟨a, _, c, e⟩
    have HBX := Lib.hid h.box
    have HL := Lib.hid h.l
    have HSZ := Lib.hid hsz
    have hcap : rt.l.length ≤ cap ∧ cap ≤ maxLen := by
      rcases ownsRow_form h.l with ⟨e, _⟩ | ⟨g', c', e, h1, h2⟩
      · cases e
      · cases e; exact ⟨h1, h2⟩
    obtain ⟨N, hN⟩ : ∃ N, rt.l.length = N := ⟨_, rfl⟩
    rw [hN] at hi HBX HL hcap
    have HN := Lib.hid hN
    clear hN
    obtain ⟨hc1, hc2⟩ := hcap
    have hc3 : cap ≤ 9223372036854775807 := by unfold maxLen at hc2; omega
    have hlt : ¬ ((i : Int) < 0) := by omega
    have hiN : (i : Int) < (N : Int) := by omega
    have hic : i ≤ cap := by omega
    have hic1 : i + 1 ≤ cap := by omega
    have hiN1 : i + 1 ≤ N := by omega
    have hwr : IntKind.i64.wrap ((i : Int) + 1) = (i : Int) + 1 := IntWalk.i64_in _ (by omega)
    have htn : ((i : Int) + 1).toNat = i + 1 := by omega
    have hz0 : 0 ≤ (i : Int) + 1 := by omega
    have hz1 : (i : Int) + 1 ≤ (N : Int) := by omega
    obtain ⟨off2, hoff, hof2⟩ : ∃ off2, (if cap = i + 1 then some (⟨g, 0, none⟩ : Addr) else some ⟨g, (i + 1) * 6, none⟩) = some ⟨g, off2, none⟩ ∧ Hid (off2 = (i + 1) * 6 ∨ N = i + 1) := by
      by_cases e : cap = i + 1
      · exact ⟨0, by rw [if_pos e], .inr (by omega)⟩
      · exact ⟨_, by rw [if_neg e], .inl rfl⟩
    clear h hv hc2 hsz
    go_enter Tryz.func24, Tryz.ntmps24
    go_upto_region 4 with (go_at_call 49; refine HF.out.mono ?_; rintro e w2 ⟨rfl, h2⟩; obtain rfl : w = w2 := h2.symm)
    have HQ : Hid (∀ W : World, W.heap[M]? = w.heap[M]? → W.cell? ⟨M, 0, none⟩ = some (.slice (some ⟨g, 0, none⟩) N cap)) := fun W hW => (HBX.out.to hW).cell (j := 0) rfl
    refine Two.wp_region_ord2 (fun W => W.heap[M]? = w.heap[M]?) (fun _ => True) 17 19 [(.qb, 0), (.qb, 2), (.qb, 3), (.qb, 4), (.qa, 5), (.qb, 6), (.qb, 7), (.qb, 9), (.qb, 10), (.qb, 11), (.qa, 12), (.qb, 13), (.qb, 14), (.qb, 15), (.l0, 1), (.l0, 8), (.l0, 16), (.l1, 17), (.qb, 18), (.l2, 19)] (by kernel_rfl) (by kernel_rfl) (fun _ _ d _ _ h => by cases d <;> exact h) rfl trivial ?_
    intro wd hwd hS hS2
    simp only [Two.ordOps2, List.map_cons, List.map_nil, Array.getD_eq_getD_getElem?, List.getElem?_toArray, List.getElem?_cons_succ, List.getElem?_cons_zero, Option.getD_some]
    iterate 4 (refine Two.step_qb rfl _ (fun w' hS' K hK => (by clear hS'; go_simp; exact hK)) (fun K hK => ?_); go_simp; refine hK _ ?_; clear hK K)
    refine Two.step_qa rfl _ (fun w' hS' K hK => (by have q1 := HQ.out w' hS'; clear hS'; go_simp; exact hK)) (fun K hK => ?_); go_simp; refine hK _ ?_; clear hK K
    iterate 2 (refine Two.step_qb rfl _ (fun w' hS' K hK => (by clear hS'; go_simp; exact hK)) (fun K hK => ?_); go_simp; refine hK _ ?_; clear hK K)
    iterate 3 (refine Two.step_qb rfl _ (fun w' hS' K hK => (by clear hS'; go_simp; exact hK)) (fun K hK => ?_); go_simp; refine hK _ ?_; clear hK K)
    refine Two.step_qa rfl _ (fun w' hS' K hK => (by have q1 := HQ.out w' hS'; clear hS'; go_simp; exact hK)) (fun K hK => ?_); go_simp; refine hK _ ?_; clear hK K
    iterate 3 (refine Two.step_qb rfl _ (fun w' hS' K hK => (by clear hS'; go_simp; exact hK)) (fun K hK => ?_); go_simp; refine hK _ ?_; clear hK K)
    have HBd : Hid (Below w.heap.size w wd) := by rw [hwd.out]; exact (Below.refl _ _).drew
    have HM : Hid (M < w.heap.size) := HBX.out.lt
    have HLd : Hid (∀ W, Below wd.heap.size wd W → W.ownsRow B 70 6 (.slice (some ⟨g, 0, none⟩) N cap) N (rt.l.flatMap keptCells)) := fun W hb => ownsRow_below (ownsRow_below HL.out HBd.out) hb
    refine Two.step_l0 rfl (fun K hK => ?_)
    go_simp
    refine hK _ _ ⟨⟨?_, trivial⟩, ?_⟩
    · rw [← hS]
      exact (below1 wd _).block _ (Nat.lt_of_lt_of_le HM.out HBd.out.size)
    clear hK K
    have HO1 := Lib.hid (OwnK.made (w := wd) (W := wd) (Below.refl _ _))
    refine Two.step_l0 rfl (fun K hK => ?_)
    refine op_appK (w0 := wd) (.tmp 15) (.tmp 21) rfl _ g 0 i cap [] (rt.l.take i) rfl rfl HO1.out (by rw [List.length_take]; have := HN.out; omega) ?_ ?_ ?_ ?_
    · intro j u hj
      rw [Nat.zero_add]
      refine ownsRow_cell (HLd.out _ (below1 wd _)) ?_
      rw [flat_take] at hj
      have := (List.getElem?_eq_some_iff.1 hj).1
      rw [List.length_take] at this
      rw [List.getElem?_take_of_lt (by omega)] at hj
      exact hj
    · exact fun p hp => HSL.out p (List.mem_of_mem_take hp)
    · rw [List.length_take]; have := HSZ.out; simp; omega
    intro v1 w1 hO1 hg1
    rw [List.nil_append] at hO1
    have HO2 := Lib.hid hO1
    have HW1 : Hid (w1.heap[M]? = w.heap[M]?) := by
      rw [← hS]
      exact hO1.2.1.block _ (Nat.lt_of_lt_of_le HM.out HBd.out.size)
    go_simp
    refine hK _ _ ⟨⟨HW1.out, trivial⟩, ?_⟩
    clear hK K hO1 hg1 HO1
    refine Two.step_l0 rfl (fun K hK => ?_)
    refine op_appK (w0 := wd) (.tmp 22) (.tmp 29) rfl _ g off2 (N - (i + 1)) (cap - (i + 1)) (rt.l.take i) (rt.l.drop (i + 1)) rfl rfl HO2.out (by rw [List.length_drop]; have := HN.out; omega) ?_ ?_ ?_ ?_
    · intro j u hj
      rcases hof2.out with e | e
      · subst e
        refine ownsRow_cell (HLd.out _ HO2.out.2.1) ?_
        rw [flat_drop, List.getElem?_drop] at hj
        exact hj
      · rw [List.drop_of_length_le (by have := HN.out; omega)] at hj
        simp at hj
    · exact fun p hp => HSL.out p (List.mem_of_mem_drop hp)
    · rw [List.length_take, List.length_drop]; have := HSZ.out; omega
    intro v2 w2 hO2 hg2
    have HO3 := Lib.hid hO2
    have HW2 : Hid (w2.heap[M]? = w.heap[M]?) := by
      rw [← hS]
      exact hO2.2.1.block _ (Nat.lt_of_lt_of_le HM.out HBd.out.size)
    go_simp
    refine hK _ _ ⟨⟨HW2.out, trivial⟩, ?_⟩
    clear hK K hO2 hg2 HO2 HW1
    refine Two.step_l1 rfl (fun K hK => ?_)
    go_simp
    refine hK _ _ ⟨trivial, ?_⟩
    clear hK K
    refine Two.step_qb rfl _ (fun w' hS' K hK => (by clear hS'; go_simp; exact hK)) (fun K hK => ?_); go_simp; refine hK _ ?_; clear hK K
    obtain ⟨g2, n2, cap2, rfl, HG2⟩ : ∃ g2 n2 cap2, v2 = .slice (some ⟨g2, 0, none⟩) n2 cap2 ∧ Hid (n2 = (rt.l.take i ++ rt.l.drop (i + 1)).length ∧ wd.heap.size ≤ g2 ∧ g2 < w2.heap.size) := by
      obtain ⟨g2, cap2, hv2, hg2a, hg2b⟩ := HO3.out.form
      exact ⟨g2, _, cap2, hv2, rfl, hg2a, hg2b⟩
    have hbx2 := HBX.out.to HW2.out
    have p0 := hbx2.cell (j := 0) rfl
    have p1 := hbx2.frozen 0
    refine Two.step_l2 rfl (fun K hK => ?_)
    go_simp
    refine hK _ _ ?_
    clear hK K p0 p1 hbx2
    refine Two.step_nil ?_
    have HFIN : Hid (Q (.returned (.int .i64 0)) (w2.setCell ⟨M, 0, none⟩ (.slice (some ⟨g2, 0, none⟩) n2 cap2))) := by
      obtain ⟨hn2, hg2a, hg2b⟩ := HG2.out
      have hr : RefIn wd B role M (.slice (some ⟨g, 0, none⟩) N cap) vK vN vD rt := by
        have := HH.out.below HB.out HBd.out
        rw [HN.out] at this
        exact this
      have hB2 := HO3.out.2.1
      obtain ⟨role', h1, h2⟩ := hr.l_step (l' := rt.l.take i ++ rt.l.drop (i + 1)) (Nat.le_trans HB.out HBd.out.size) hn2 (by have h1 := ownsRow_base HO3.out.1 (Nat.le_trans HB.out HBd.out.size); rw [← hn2] at h1; exact h1)
        (w1 := w2) ⟨hB2.os, hB2.tape, hB2.output, hB2.size, fun b hb _ => hB2.block b hb⟩ (.inr hg2a) hg2b (fun p hp => hr.cont p (by
          rcases List.mem_append.1 hp with hp | hp
          · exact List.mem_of_mem_take hp
          · exact List.mem_of_mem_drop hp))
      exact HE.out _ role' _ (((Step.of_below HH.out.hi HBd.out).trans h1).mono (by
        rintro r (e | e | e)
        · exact e.elim
        · rw [e]; simp
        · rw [e]; simp)) h2
    clear HO3 HE HW2 HLd HBd hwd hS hS2 HQ hof2 hoff
    go_wp2_with fail
    exact HFIN.out
end
end Go.Proofs.YtnplmembdfklcaaGreatDoor
