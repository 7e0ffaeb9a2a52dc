/-
  The contract of Relate of the program's table of names, whole. Helper text; the conditions are those typed.
-/
import Derived.Test.YthjhjifihhhphaaDoorWalkE
import Derived.Test.YthjhjifihhhphaaDoorOrd
namespace Go.Proofs.YthjhjifihhhphaaDoor
set_option linter.unusedVariables false
set_option linter.unusedSimpArgs false
open Go.RowKit Go.Maps

/-- The table behind the three writes of Relate. -/
theorem rel_rep {b : Nat} {t : Tab} {S : Nat → Prop} {w W w1 w2 w3 : World} {nv lv lv' : Value} {mi mp : Nat} {x op y : Int} (h : TabIn w b t nv lv mi mp S) (hkx : t.known x = true) (hky : t.known y = true) (h1 : 1 ≤ op) (h7 : op ≤ 7)
    (hp : pos t.rels (x, op, y) = none) (hl : t.rels.length < 5000) (hW : Chg (fun _ => False) w W)
    (hg : W.grownBy w1 lv.ownBlock) (hown : w1.ownsRow 0 40 3 lv' (t.rels.length + 1) (t.rels.flatMap relCells ++ [.int .i64 x, .int .i64 op, .int .i64 y])) (hloc : ∀ k, lv'.ownBlock = some k → lv.ownBlock = some k ∨ w.heap.size ≤ k)
    (h2 : w2 = w1.setCell ⟨b, 2, none⟩ lv')
    (hm : MapIs Tryd.prog 40 3 w3 mp (t.rels.length + 1) (relF (t.rels ++ [(x, op, y)]))) (hg3 : w2.drew.grownBy w3 (some mp)) :
    TabPost w S b { t with rels := t.rels ++ [(x, op, y)] } w3 := by
  subst h2
  have hbw : b < w.heap.size := h.slt b h.sb
  have hz0 := hW.size
  have hz1 : W.heap.size ≤ w1.heap.size := hg.size
  have hz3 : w1.heap.size ≤ w3.heap.size := by have := hg3.size; simpa [World.setCell] using this
  have keep1 : ∀ k, k < w.heap.size → lv.ownBlock ≠ some k → w1.heap[k]? = w.heap[k]? := by
    intro k hk h3
    rw [hg.block k (by omega) (fun e => h3 e.symm), hW.block k hk (fun h => h)]
  have keep : ∀ k, k < w.heap.size → k ≠ b → k ≠ mp → lv.ownBlock ≠ some k → w3.heap[k]? = w.heap[k]? := by
    intro k hk h1 h2 h3
    rw [hg3.block k (by simp [World.setCell]; omega) (fun e => h2 (Option.some.inj e))]
    show (w1.setCell ⟨b, 2, none⟩ lv').heap[k]? = _
    rw [Below.heap_setCell _ _ _ _ h1, keep1 k hk h3]
  have B1 : w1.heap[b]? = some (.cells #[nv, .map (some mi), lv, .map (some mp)] 36 (0, 0)) := by
    rw [keep1 b hbw (fun e => h.bl b e rfl)]
    exact h.blk
  have hne : ∀ k, lv'.ownBlock = some k → k ≠ b ∧ k ≠ mi ∧ k ≠ mp ∧ nv.ownBlock ≠ some k ∧ (S k ∨ w.heap.size ≤ k) ∧ k < w1.heap.size := by
    intro k hk
    have hlt := (hown.lt k hk).2
    rcases hloc k hk with e | e
    · exact ⟨h.bl k e, h.li k e, h.lp k e, fun e' => h.nl k e' e, .inl (h.sl k e), hlt⟩
    · refine ⟨by omega, ?_, ?_, ?_, .inr e, hlt⟩
      · have := h.slt mi h.si; omega
      · have := h.slt mp h.sp; omega
      · intro e'; have := h.slt _ (h.sn _ e'); omega
  refine ⟨fun k => S k ∨ (w.heap.size ≤ k ∧ k < w3.heap.size), ⟨nv, lv', mi, mp, ?_⟩, ?_, ?_⟩
  · refine ⟨?_, ?_, ?_, ?_, ?_, ?_, .inl h.sb, fun k hk => .inl (h.sn k hk), ?_, .inl h.si, .inl h.sp, h.bn, fun k hk => (hne k hk).1, fun k hk e => (hne k e).2.2.2.1 hk, h.bi, h.bp, h.ni, h.np, fun k hk => (hne k hk).2.1, fun k hk => (hne k hk).2.2.1, h.ip, ?_⟩
    · rw [hg3.block b (by simp [World.setCell]; omega) (fun e => h.bp (Option.some.inj e))]
      exact blk_set B1 2 _
    · exact ownsRow_block h.nrow fun g hgk => keep g (h.slt g (h.sn g hgk)) (h.bn g hgk) (h.np g hgk) (fun e => h.nl g hgk e)
    · have : w3.ownsRow 0 40 3 lv' (t.rels.length + 1) (t.rels.flatMap relCells ++ [.int .i64 x, .int .i64 op, .int .i64 y]) := by
        refine ownsRow_block hown fun g hgk => ?_
        obtain ⟨n1, n2, n3, _, _, n6⟩ := hne g hgk
        rw [hg3.block g (by simp [World.setCell]; omega) (fun e => n3 (Option.some.inj e))]
        exact Below.heap_setCell _ _ _ _ n1
      simpa [relCells] using this
    · exact h.ids.block (keep mi (h.slt mi h.si) (Ne.symm h.bi) h.ip (fun e => h.li mi e rfl))
    · simpa using hm
    · have := Tab.rel_ok h.ok x op y
      simpa [Tab.rel, hkx, hky, show ¬ op < 1 by omega, show ¬ 7 < op by omega, hp, show ¬ 5000 ≤ t.rels.length by omega] using this
    · intro k hk
      rcases (hne k hk).2.2.2.2.1 with e | e
      · exact .inl e
      · right; have := (hne k hk).2.2.2.2.2; omega
    · intro k hk
      rcases hk with hk | hk
      · have := h.slt k hk; omega
      · exact hk.2
  · refine Chg.trans (S' := fun k => k = b ∨ k = mp ∨ lv.ownBlock = some k) (Chg.refl _ _) ⟨?_, ?_, ?_, by omega, fun k hk hn => keep k hk (fun e => hn (.inl e)) (fun e => hn (.inr (.inl e))) (fun e => hn (.inr (.inr e)))⟩ ?_
    · rw [hg3.os]; exact hg.os.trans hW.os
    · rw [hg3.tape]; exact hg.tape.trans hW.tape
    · rw [hg3.output]; exact hg.output.trans hW.output
    · rintro k _ (rfl | rfl | e)
      · exact h.sb
      · exact h.sp
      · exact h.sl k e
  · rintro k (hk | hk)
    · exact .inl hk
    · exact .inr hk.1

set_option maxHeartbeats 1000000 in
set_option maxRecDepth 100000 in
theorem rel_new {b : Nat} {t : Tab} {S : Nat → Prop} {w : World} (h : TabAt w b t S) (x op y : Int) (hkx : t.known x = true) (hky : t.known y = true) (h1 : 1 ≤ op) (h7 : op ≤ 7)
    (hp : pos t.rels (x, op, y) = none) (hl : t.rels.length < 5000) :
    Calls Tryd.prog 9 #[.pointer (some ⟨b, 0, none⟩), .int .i64 x, .int .i64 op, .int .i64 y] w fun e w' => e = .returned (.tuple #[.int .i64 t.rels.length, .int .i64 0]) ∧ TabPost w S b { t with rels := t.rels ++ [(x, op, y)] } w' := by
  have hx := Lib.hid (hkx ▸ known_in h x)
  have hy := Lib.hid (hky ▸ known_in h y)
  obtain ⟨bx0, bx1⟩ := Tab.known_iff.1 hkx
  obtain ⟨by0, by1⟩ := Tab.known_iff.1 hky
  have hmany := h.ok.many
  obtain ⟨nv, lv, mi, mp, h⟩ := h
  have hkey := keyRel (a := x) (b := op) (c := y) (wf_of (by omega)) (wf_of (by omega)) (wf_of (by omega))
  have hlt := h.slt mp h.sp
  have hbl := h.slt b h.sb
  have hrun : ∀ n, (Instr.lookup 33 (.map (some mp)) (.agg #[.int .i64 x, .int .i64 op, .int .i64 y]) true).run Tryd.prog ((w.alloc (.cells #[.int .i64 x, .int .i64 op, .int .i64 y] 40)).drewN n) =
      .ok (.tuple #[.int .i64 0, .bool false]) ((w.alloc (.cells #[.int .i64 x, .int .i64 op, .int .i64 y] 40)).drewN n) := by
    intro n
    have hm : MapIs Tryd.prog 40 3 ((w.alloc (.cells #[.int .i64 x, .int .i64 op, .int .i64 y] 40)).drewN n) mp t.rels.length (relF t.rels) := h.places.block (by
      show (w.alloc _).heap[mp]? = _
      exact Below.heap_alloc _ _ _ hlt)
    have := hm.run_look lawRel Tryd.underlying33 Tryd.underlying3 (zero3 _) hkey
    have hr0 : relF t.rels (.agg #[.int .i64 x, .int .i64 op, .int .i64 y]) = none := by
      show (pos t.rels (x, op, y)).map (fun n : Nat => (n : Int)) = none
      rw [hp]; rfl
    rw [hr0] at this
    exact this
  have HF1 : Hid (relF (t.rels ++ [(x, op, y)]) (.agg #[.int .i64 x, .int .i64 op, .int .i64 y]) = some (t.rels.length : Int)) := by
    show (pos (t.rels ++ [(x, op, y)]) (x, op, y)).map (fun n : Nat => (n : Int)) = _
    rw [pos_snoc _ _ _ (pos_none.1 hp), if_pos rfl]; rfl
  have HF2 : Hid (∀ u, u ≠ .agg #[.int .i64 x, .int .i64 op, .int .i64 y] → relF (t.rels ++ [(x, op, y)]) u = relF t.rels u) := by
    intro u hu
    unfold relF
    split
    · rename_i cs
      split
      · rename_i a' b' c' he
        rw [pos_snoc _ _ _ (pos_none.1 hp), if_neg]
        intro e
        simp only [Prod.mk.injEq] at e
        obtain ⟨rfl, rfl, rfl⟩ := e
        exact hu (by rw [← he])
      · rfl
    · rfl
  have c3 := cell_of_blk h.blk 3 rfl
  obtain ⟨a, cc, rfl⟩ := row_slice h.lrow
  have c2 := cell_of_blk h.blk 2 rfl
  have hl' : (t.rels.length : Int) < (5000 : Int) := by omega
  have H := Lib.hid h
  have HP := Lib.hid hp
  have HK := Lib.hid (And.intro hkx hky)
  clear h hp hkx hky
  go_enter Tryd.func9, Tryd.ntmps9
  go_wp2_with fail
  refine hx.out.mono ?_; rintro e w' ⟨rfl, rfl⟩
  go_wp2_with fail
  refine hy.out.mono ?_; rintro e w' ⟨rfl, rfl⟩
  go_wp2
  go_quiet (fail)
  go_wp2
  clear hrun c3 c2
  have hW : Chg (fun _ => False) w ((w.alloc (.cells #[.int .i64 x, .int .i64 op, .int .i64 y] 40)).drewN nq) := ((Chg.refl _ _).alloc _).drewN _
  have hrb : ((w.alloc (.cells #[.int .i64 x, .int .i64 op, .int .i64 y] 40)).drewN nq).heap[w.heap.size]? = some (.cells #[.int .i64 x, .int .i64 op, .int .i64 y] 40 (0, 0)) := heap_alloc_new w _
  generalize (w.alloc (.cells #[.int .i64 x, .int .i64 op, .int .i64 y] 40)).drewN nq = W at hW hrb ⊢
  have hzW := hW.size
  have HB : Hid (W.heap[b]? = some (.cells #[nv, .map (some mi), .slice a t.rels.length cc, .map (some mp)] 36 (0, 0))) := (hW.block b hbl (fun h => h)).trans H.out.blk
  have hrow : W.ownsRow 0 40 3 (.slice a t.rels.length cc) t.rels.length (t.rels.flatMap relCells) := ownsRow_block H.out.lrow fun g hg => hW.block g (H.out.slt g (H.out.sl g hg)) (fun h => h)
  have s2 := cell_of_blk HB.out 2 rfl
  have sf := free_of_blk HB.out 2
  have r0 := cell_of_blk hrb 0 rfl
  have r1 := cell_of_blk hrb 1 rfl
  have r2 := cell_of_blk hrb 2 rfl
  have lrb := lt_of_block hrb
  have HRB := Lib.hid hrb
  clear hrb
  have nb : (Value.slice a t.rels.length cc).ownBlock ≠ some b := fun e => H.out.bl b e rfl
  have nr : (Value.slice a t.rels.length cc).ownBlock ≠ some w.heap.size := fun e => by have := H.out.slt _ (H.out.sl _ e); omega
  obtain ⟨i0, hi0, hi1, hi2, hi3⟩ := info_parts info59
  have hbW : b < W.heap.size := by omega
  obtain ⟨rb, hrbe⟩ : ∃ rb, rb = w.heap.size := ⟨_, rfl⟩
  rw [← hrbe] at r0 r1 r2 lrb nr HRB ⊢
  have HRE := Lib.hid hrbe
  clear hrbe
  refine wp_region_ord (fun w' => w'.cell? ⟨b, 2, none⟩ = some (.slice a t.rels.length cc) ∧ w'.frozen? ⟨b, 2, none⟩ = false ∧ w'.cell? ⟨rb, 0, none⟩ = some (.int .i64 x) ∧ w'.cell? ⟨rb, 1, none⟩ = some (.int .i64 op) ∧ w'.cell? ⟨rb, 2, none⟩ = some (.int .i64 y)) 10
    [(true, 0), (true, 1), (true, 2), (true, 3), (true, 4), (true, 5), (false, 6), (false, 7), (false, 8), (false, 9), (false, 10)] (by kernel_rfl) (by kernel_rfl) (fun _ _ d _ _ h => by cases d <;> exact h) ⟨s2, sf, r0, r1, r2⟩ ?_
  intro wd hwd hS
  simp only [ordOps, List.map_cons, List.map_nil, Array.getD_eq_getD_getElem?, List.getElem?_toArray, List.getElem?_cons_succ, List.getElem?_cons_zero, Option.getD_some]
  iterate 6 (refine wpOrd_q rfl _ (fun w' hS' K hK => (by have q1 := hS'.1; have q2 := hS'.2.1; have q3 := hS'.2.2.1; have q4 := hS'.2.2.2.1; have q5 := hS'.2.2.2.2; clear hS'; go_simp; exact hK)) (fun K hK => ?_); go_simp; refine hK _ ?_; clear hK K)
  have hrow' : (wd.alloc (.cells #[.int .i64 x, .int .i64 op, .int .i64 y] 40)).ownsRow 0 40 3 (.slice a t.rels.length cc) t.rels.length (t.rels.flatMap relCells) := (ownsRow_block hrow (fun g _ => blk_drew hwd g)).alloc _
  obtain ⟨t1, t2, t3, t4, t5⟩ := hS
  refine wpOrd_l rfl (fun K hK => ?_)
  go_simp
  refine hK _ _ ⟨fun _ => ⟨cell_alloc t1, free_alloc t1 t2, cell_alloc t3, cell_alloc t4, cell_alloc t5⟩, ?_⟩
  clear hK K
  refine wpOrd_l rfl (fun K hK => ?_)
  refine op_append_row _ (.tmp 59) (.tmp 61) 34 rfl 40 (.agg #[.int .i64 0, .int .i64 0, .int .i64 0]) 3 24 Tryd.underlying34 info59 rfl (by decide) (.slice a t.rels.length cc) _ _ rfl hrow' ⟨wd.heap.size, 0, none⟩ 1 1 [.int .i64 x, .int .i64 op, .int .i64 y] rfl rfl (cells_new wd [.int .i64 x, .int .i64 op, .int .i64 y] 40) (by intro u hu; simp at hu; rcases hu with rfl | rfl | rfl <;> rfl) (by unfold maxLen; omega) (by omega) ?_
  intro a' c' w1 hown1 hgrow hat
  have v1 := cell_grown hgrow (cell_alloc t1) nb
  have v2 := free_grown hgrow (cell_alloc t1) (free_alloc t1 t2) nb
  have v3 := cell_grown hgrow (cell_alloc t3) nr
  have v4 := cell_grown hgrow (cell_alloc t4) nr
  have v5 := cell_grown hgrow (cell_alloc t5) nr
  refine hK _ _ ⟨fun _ => ⟨v1, v2, v3, v4, v5⟩, ?_⟩
  clear hK K
  refine wpOrd_l rfl (fun K hK => ?_)
  go_simp
  refine hK _ _ ⟨fun _ => ⟨v1, v2, v3, v4, v5⟩, ?_⟩
  clear hK K
  refine wpOrd_l rfl (fun K hK => ?_)
  go_simp
  refine hK _ _ ⟨fun _ => ⟨v1, v2, v3, v4, v5⟩, ?_⟩
  clear hK K
  refine wpOrd_l rfl (fun K hK => ?_)
  go_simp
  refine hK _ _ ⟨fun h => absurd rfl h, ?_⟩
  clear hK K
  refine wpOrd_nil ?_
  have hbd : b < wd.heap.size := World.block_lt_of_cell? wd _ t1
  have B1 : w1.heap[b]? = some (.cells #[nv, .map (some mi), .slice a t.rels.length cc, .map (some mp)] 36 (0, 0)) := by
    rw [hgrow.block b (by simp; omega) (fun e => nb e.symm), Below.heap_alloc _ _ _ hbd, blk_drew hwd b]
    exact HB.out
  have R1 : w1.heap[rb]? = some (.cells #[.int .i64 x, .int .i64 op, .int .i64 y] 40 (0, 0)) := by
    have hrd : rb < wd.heap.size := World.block_lt_of_cell? wd _ t3
    rw [hgrow.block rb (by simp; omega) (fun e => nr e.symm), Below.heap_alloc _ _ _ hrd, blk_drew hwd rb]
    exact HRB.out
  have hbr : rb ≠ b := by have := HRE.out; omega
  have hpd : mp < wd.heap.size := by
    rw [show wd.heap.size = W.heap.size by rw [hwd.out]; rfl]
    omega
  have hm1 : MapIs Tryd.prog 40 3 w1 mp t.rels.length (relF t.rels) := by
    refine (H.out.places.block ?_)
    rw [hgrow.block mp (by simp; omega) (fun e => H.out.lp mp e.symm rfl), Below.heap_alloc _ _ _ hpd, blk_drew hwd mp, hW.block mp hlt (fun h => h)]
  have hgW : W.grownBy w1 (Value.slice a t.rels.length cc).ownBlock := by
    have e := hwd.out
    subst e
    exact ⟨hgrow.os, hgrow.tape, hgrow.output, Nat.le_trans (by simp) hgrow.size, fun k hk hne => (hgrow.block k (by simp; omega) hne).trans (Below.heap_alloc _ _ _ hk)⟩
  have hloc : ∀ k, (Value.slice a' (t.rels.length + 1) c').ownBlock = some k → (Value.slice a t.rels.length cc).ownBlock = some k ∨ w.heap.size ≤ k := by
    intro k hk
    rcases hat with e | e
    · left; rw [← e]; exact hk
    · right
      rw [hk] at e
      have := Option.some.inj e
      have e2 : wd.heap.size = W.heap.size := by rw [hwd.out]; rfl
      simp at this
      omega
  have B2 := blk_set B1 2 (.slice a' (t.rels.length + 1) c')
  have R2 : (w1.setCell ⟨b, 2, none⟩ (.slice a' (t.rels.length + 1) c')).heap[rb]? = some (.cells #[.int .i64 x, .int .i64 op, .int .i64 y] 40 (0, 0)) := (Below.heap_setCell _ _ _ _ hbr).trans R1
  have hm2 := hm1.block (w' := w1.setCell ⟨b, 2, none⟩ (.slice a' (t.rels.length + 1) c')) (Below.heap_setCell _ _ _ _ (Ne.symm H.out.bp))
  have HG := Lib.hid hgW
  have HL := Lib.hid hloc
  have HO := Lib.hid hown1
  clear hgW hloc hown1 B1 R1 hm1 v1 v2 v3 v4 v5 t1 t2 t3 t4 t5 hrow hrow' hgrow hat s2 sf r0 r1 r2 nb nr
  generalize hw2 : w1.setCell ⟨b, 2, none⟩ (.slice a' (t.rels.length + 1) c') = w2 at B2 R2 hm2 ⊢
  have HW2 := Lib.hid hw2
  clear hw2
  go_wp2
  refine wp_still_tail 11 (by kernel_rfl) (by kernel_rfl) ?_
  intro we hwe
  have B3 := (blk_drew hwe b).trans B2
  have R3 := (blk_drew hwe rb).trans R2
  have hid2 := hm2.block (blk_drew hwe mp)
  have f2 := cell_of_blk B3 2 rfl
  have f3 := cell_of_blk B3 3 rfl
  have g0 := cell_of_blk R3 0 rfl
  have g1 := cell_of_blk R3 1 rfl
  have g2 := cell_of_blk R3 2 rfl
  have H3 := Lib.hid B3
  clear B2 B3 R2 R3 hm2
  simp only [List.take_succ_cons, List.take_zero, List.drop_succ_cons, List.drop_zero]
  repeat still_step
  refine wpStill_nil ?_
  refine wpList_mapUpdate_is _ rfl _ _ _ 33 rfl 40 3 lawRel Tryd.underlying33 Tryd.underlying3 mp t.rels.length (relF t.rels) rfl hid2 (by unfold maxLen; omega) (.agg #[.int .i64 x, .int .i64 op, .int .i64 y]) t.rels.length _ rfl (by simp [Act.eval]; exact IntWalk.i64_in _ (by omega)) (by apply WalkArith.wf_i64; omega) hkey (relF (t.rels ++ [(x, op, y)])) HF1.out HF2.out ?_
  intro w3 hm3 hg3 hs3
  have R := rel_rep H.out HK.out.1 HK.out.2 h1 h7 HP.out hl hW HG.out HO.out HL.out HW2.out.symm hm3 (by rw [← hwe.out]; exact hg3)
  have B4 := (hg3.block b (lt_of_block H3.out) (fun e => H.out.bp (Option.some.inj e))).trans H3.out
  have e0 := cell_of_blk B4 2 rfl
  clear B4 f2 f3 g0 g1 g2
  go_wp2
  go_ret2
  exact ⟨by simp, R⟩

/-- Relate. -/
theorem rel_in {b : Nat} {t : Tab} {S : Nat → Prop} {w : World} (h : TabAt w b t S) (x op y : Int) :
    Calls Tryd.prog 9 #[.pointer (some ⟨b, 0, none⟩), .int .i64 x, .int .i64 op, .int .i64 y] w fun e w' => e = .returned (.tuple #[.int .i64 (t.relRes x op y).1, .int .i64 (t.relRes x op y).2]) ∧ TabPost w S b (t.rel x op y) w' := by
  cases hk : t.known x && t.known y with
  | false =>
    have e2 : t.rel x op y = t := by simp [Tab.rel, hk]
    rw [e2]
    refine (rel_bad h x op y (.inl hk)).mono ?_
    rintro e w' ⟨rfl, rfl⟩
    exact ⟨rfl, S, h, Chg.refl _ _, fun k hk => .inl hk⟩
  | true =>
    have hk' := hk
    simp only [Bool.and_eq_true] at hk'
    obtain ⟨hkx, hky⟩ := hk'
    by_cases hop : op < 1 ∨ 7 < op
    · have e2 : t.rel x op y = t := by simp [Tab.rel, hop]
      rw [e2]
      refine (rel_bad h x op y (.inr hop)).mono ?_
      rintro e w' ⟨rfl, rfl⟩
      exact ⟨rfl, S, h, Chg.refl _ _, fun k hk => .inl hk⟩
    have ho1 : ¬ op < 1 := fun h => hop (.inl h)
    have ho7 : ¬ 7 < op := fun h => hop (.inr h)
    cases hp : pos t.rels (x, op, y) with
    | some i =>
      have e1 : t.relRes x op y = ((i : Int), 0) := by simp [Tab.relRes, hkx, hky, ho1, ho7, hp]
      have e2 : t.rel x op y = t := by simp [Tab.rel, hkx, hky, ho1, ho7, hp]
      rw [e1, e2]
      refine (rel_old h x op y hkx hky (by omega) (by omega) i 0 (.inl ⟨by simpa using hp, by omega, rfl⟩)).mono ?_
      rintro e w' ⟨rfl, hc⟩
      exact ⟨rfl, S, h.chg hc (fun _ _ h => h), hc.mono (fun _ _ h => h.elim), fun k hk => .inl hk⟩
    | none =>
      by_cases hf : 5000 ≤ t.rels.length
      · have e1 : t.relRes x op y = (0, 20) := by simp [Tab.relRes, hkx, hky, ho1, ho7, hp, hf]
        have e2 : t.rel x op y = t := by simp [Tab.rel, hkx, hky, ho1, ho7, hp, hf]
        rw [e1, e2]
        refine (rel_old h x op y hkx hky (by omega) (by omega) 0 20 (.inr ⟨hp, hf, rfl, rfl⟩)).mono ?_
        rintro e w' ⟨rfl, hc⟩
        exact ⟨rfl, S, h.chg hc (fun _ _ h => h), hc.mono (fun _ _ h => h.elim), fun k hk => .inl hk⟩
      · have e1 : t.relRes x op y = ((t.rels.length : Int), 0) := by simp [Tab.relRes, hkx, hky, ho1, ho7, hp, hf]
        have e2 : t.rel x op y = { t with rels := t.rels ++ [(x, op, y)] } := by simp [Tab.rel, hkx, hky, ho1, ho7, hp, hf]
        rw [e1, e2]
        exact rel_new h x op y hkx hky (by omega) (by omega) hp (by omega)
end Go.Proofs.YthjhjifihhhphaaDoor
