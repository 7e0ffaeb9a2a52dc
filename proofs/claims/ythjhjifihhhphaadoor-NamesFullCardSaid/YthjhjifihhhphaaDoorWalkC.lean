/-
  The contract of Add of the program's table of names. Helper text; the conditions are those typed.
-/
import Derived.Test.YthjhjifihhhphaaDoorWalkB
namespace Go.Proofs.YthjhjifihhhphaaDoor
set_option linter.unusedVariables false
set_option linter.unusedSimpArgs false
open Go.RowKit Go.Maps

/-- Add where nothing is added. -/
theorem add_old {b : Nat} {t : Tab} {S : Nat → Prop} {w : World} (h : TabAt w b t S) (s : ByteArray) (hs : s.size ≤ maxLen) (hold : 60 < s.size ∨ s ∈ t.names ∨ 5000 ≤ t.names.length) :
    Calls Tryd.prog 6 #[.pointer (some ⟨b, 0, none⟩), .string s] w fun e w' => e = .returned (.tuple #[.int .i64 (t.addRes s).1, .int .i64 (t.addRes s).2]) ∧ w = w' := by
  obtain ⟨nv, lv, mi, mp, h⟩ := h
  by_cases hl : 60 < s.size
  · have hr : t.addRes s = (0, 21) := by simp [Tab.addRes, hl]
    rw [hr]
    have hl' : (60 : Int) < (s.size : Int) := by omega
    clear h hold
    go_enter Tryd.func6, Tryd.ntmps6
    go_wp2
    go_ret2
    exact ⟨rfl, rfl⟩
  have hl' : (s.size : Int) ≤ (60 : Int) := by omega
  have c1 := cell_of_blk h.blk 1 rfl
  have hid := h.ids
  have hkey := keyStr hs
  have hmany := h.ok.many
  cases hp : pos t.names s with
  | some i =>
    have hr : t.addRes s = ((i : Int), 0) := by simp [Tab.addRes, hl, hp]
    rw [hr]
    have hf : ((idsF t.names (.string s)).getD 0, (idsF t.names (.string s)).isSome) = ((i : Int), true) := by simp [idsF, hp]
    clear h hold hr hp
    go_enter Tryd.func6, Tryd.ntmps6
    go_wp2_with (at_lookup; refine wpList_lookup_is _ rfl _ _ 32 rfl 9 3 lawStr Tryd.underlying32 Tryd.underlying3 (zero3 _) mi _ _ rfl hid (.string s) _ rfl hkey i true hf ?_)
    go_ret2
    exact ⟨rfl, rfl⟩
  | none =>
    have hfull : 5000 ≤ t.names.length := by
      rcases hold with h1 | h1 | h1
      · exact absurd h1 hl
      · exact absurd h1 (pos_none.1 hp)
      · exact h1
    have hr : t.addRes s = (0, 20) := by simp [Tab.addRes, hl, hp, hfull]
    rw [hr]
    have hf : ((idsF t.names (.string s)).getD 0, (idsF t.names (.string s)).isSome) = (0, false) := by simp [idsF, hp]
    obtain ⟨a, c, rfl⟩ := row_slice h.nrow
    have c0 := cell_of_blk h.blk 0 rfl
    have hfull' : (5000 : Int) ≤ (t.names.length : Int) := by omega
    clear h hold hr hp hfull
    go_enter Tryd.func6, Tryd.ntmps6
    go_wp2_with (at_lookup; refine wpList_lookup_is _ rfl _ _ 32 rfl 9 3 lawStr Tryd.underlying32 Tryd.underlying3 (zero3 _) mi _ _ rfl hid (.string s) _ rfl hkey 0 false hf ?_)
    go_ret2
    exact ⟨rfl, rfl⟩

theorem app_blk {b : Nat} {t : Tab} {S : Nat → Prop} {w w1 : World} {nv lv : Value} {mi mp : Nat} {o : Obj} (h : TabIn w b t nv lv mi mp S) (hg : (w.alloc o).grownBy w1 nv.ownBlock) : w1.heap[b]? = some (.cells #[nv, .map (some mi), lv, .map (some mp)] 36 (0, 0)) := by
  have hb : b < w.heap.size := h.slt b h.sb
  rw [hg.block b (by simp; omega) (fun e => h.bn b e.symm rfl), Below.heap_alloc _ _ _ hb]
  exact h.blk

/-- The table behind the three writes of Add: the row of names has grown (w1), the field has been stored (w2), the map has been written (w3). -/
theorem add_rep {b : Nat} {t : Tab} {S : Nat → Prop} {w w1 w3 : World} {nv lv nv' : Value} {mi mp : Nat} {o : Obj} {s : ByteArray} (h : TabIn w b t nv lv mi mp S) (hs : s.size ≤ 60) (hp : pos t.names s = none) (hl : t.names.length < 5000)
    (hg : (w.alloc o).grownBy w1 nv.ownBlock) (hown : w1.ownsRow 0 9 1 nv' (t.names.length + 1) (t.names.map Value.string ++ [.string s])) (hloc : nv'.ownBlock = nv.ownBlock ∨ nv'.ownBlock = some (w.heap.size + 1))
    (hm : MapIs Tryd.prog 9 3 w3 mi (t.names.length + 1) (idsF (t.names ++ [s]))) (hg3 : (w1.setCell ⟨b, 0, none⟩ nv').drew.grownBy w3 (some mi)) :
    TabPost w S b { t with names := t.names ++ [s] } w3 := by
  have hbw : b < w.heap.size := h.slt b h.sb
  have hz1 : w.heap.size + 1 ≤ w1.heap.size := by have := hg.size; simpa using this
  have hz3 : w1.heap.size ≤ w3.heap.size := by have := hg3.size; simpa [World.setCell] using this
  -- what stays from w to w3
  have keep : ∀ k, k < w.heap.size → k ≠ b → k ≠ mi → nv.ownBlock ≠ some k → w3.heap[k]? = w.heap[k]? := by
    intro k hk h1 h2 h3
    rw [hg3.block k (by simp [World.setCell]; omega) (fun e => h2 (Option.some.inj e))]
    show (w1.setCell ⟨b, 0, none⟩ nv').heap[k]? = _
    rw [Below.heap_setCell _ _ _ _ h1, hg.block k (by simp; omega) (fun e => h3 e.symm), Below.heap_alloc _ _ _ hk]
  have B1 : w1.heap[b]? = some (.cells #[nv, .map (some mi), lv, .map (some mp)] 36 (0, 0)) := app_blk h hg
  have hloc' : ∀ k, nv'.ownBlock = some k → nv.ownBlock = some k ∨ k = w.heap.size + 1 := by
    intro k hk
    rcases hloc with e | e
    · left; rw [← e]; exact hk
    · right; rw [hk] at e; exact Option.some.inj e
  have hne : ∀ k, nv'.ownBlock = some k → k ≠ b ∧ k ≠ mi ∧ k ≠ mp ∧ lv.ownBlock ≠ some k ∧ (S k ∨ k = w.heap.size + 1) ∧ k < w1.heap.size := by
    intro k hk
    have hlt := (hown.lt k hk).2
    rcases hloc' k hk with e | e
    · exact ⟨h.bn k e, h.ni k e, h.np k e, h.nl k e, .inl (h.sn k e), hlt⟩
    · subst e
      refine ⟨by omega, ?_, ?_, ?_, .inr rfl, hlt⟩
      · have := h.slt mi h.si; omega
      · have := h.slt mp h.sp; omega
      · intro e; have := h.slt _ (h.sl _ e); omega
  refine ⟨fun k => S k ∨ (w.heap.size ≤ k ∧ k < w3.heap.size), ⟨nv', lv, mi, mp, ?_⟩, ?_, ?_⟩
  · refine ⟨?_, ?_, ?_, ?_, ?_, ?_, .inl h.sb, ?_, fun k hk => .inl (h.sl k hk), .inl h.si, .inl h.sp, fun k hk => (hne k hk).1, h.bl, fun k hk => (hne k hk).2.2.2.1, h.bi, h.bp, fun k hk => (hne k hk).2.1, fun k hk => (hne k hk).2.2.1, h.li, h.lp, h.ip, ?_⟩
    · rw [hg3.block b (by simp [World.setCell]; omega) (fun e => h.bi (Option.some.inj e))]
      exact blk_set B1 0 _
    · have : w3.ownsRow 0 9 1 nv' (t.names.length + 1) (t.names.map Value.string ++ [.string s]) := by
        refine ownsRow_block hown fun g hgk => ?_
        obtain ⟨n1, n2, _, _, _, n6⟩ := hne g hgk
        rw [hg3.block g (by simp [World.setCell]; omega) (fun e => n2 (Option.some.inj e))]
        exact Below.heap_setCell _ _ _ _ n1
      simpa using this
    · exact ownsRow_block h.lrow fun g hgk => keep g (h.slt g (h.sl g hgk)) (h.bl g hgk) (h.li g hgk) (fun e => h.nl g e hgk)
    · simpa using hm
    · exact h.places.block (keep mp (h.slt mp h.sp) (Ne.symm h.bp) (Ne.symm h.ip) (fun e => h.np mp e rfl))
    · have := Tab.add_ok h.ok s
      simpa [Tab.add, hp, show ¬ 60 < s.size by omega, show ¬ 5000 ≤ t.names.length by omega] using this
    · intro k hk
      rcases (hne k hk).2.2.2.2.1 with e | e
      · exact .inl e
      · right; have := (hne k hk).2.2.2.2.2; omega
    · intro k hk
      rcases hk with hk | hk
      · have := h.slt k hk; omega
      · exact hk.2
  · refine Chg.trans (S' := fun k => k = b ∨ k = mi ∨ nv.ownBlock = some k) (Chg.refl _ _) ⟨?_, ?_, ?_, by omega, fun k hk hn => keep k hk (fun e => hn (.inl e)) (fun e => hn (.inr (.inl e))) (fun e => hn (.inr (.inr e)))⟩ ?_
    · rw [hg3.os]; exact hg.os
    · rw [hg3.tape]; exact hg.tape
    · rw [hg3.output]; exact hg.output
    · rintro k _ (rfl | rfl | e)
      · exact h.sb
      · exact h.si
      · exact h.sn k e
  · rintro k (hk | hk)
    · exact .inl hk
    · exact .inr hk.1

set_option maxHeartbeats 400000 in
set_option maxRecDepth 100000 in
theorem add_new {b : Nat} {t : Tab} {S : Nat → Prop} {w : World} (h : TabAt w b t S) (s : ByteArray) (hs : s.size ≤ 60) (hp : pos t.names s = none) (hl : t.names.length < 5000) :
    Calls Tryd.prog 6 #[.pointer (some ⟨b, 0, none⟩), .string s] w fun e w' => e = .returned (.tuple #[.int .i64 t.names.length, .int .i64 0]) ∧ TabPost w S b { t with names := t.names ++ [s] } w' := by
  obtain ⟨nv, lv, mi, mp, h⟩ := h
  have hl' : (s.size : Int) ≤ (60 : Int) := by omega
  have hlen : (t.names.length : Int) < 5000 := by omega
  have c0 := cell_of_blk h.blk 0 rfl
  have c1 := cell_of_blk h.blk 1 rfl
  have hid := h.ids
  have hmb : b ≠ mi := h.bi
  have hkey := keyStr (s := s) (by unfold maxLen; omega)
  have hf : ((idsF t.names (.string s)).getD 0, (idsF t.names (.string s)).isSome) = (0, false) := by simp [idsF, hp]
  have HF1 : Hid (idsF (t.names ++ [s]) (.string s) = some (t.names.length : Int)) := by
    simp [idsF, pos_snoc _ _ _ (pos_none.1 hp), Hid]
  have HF2 : Hid (∀ u, u ≠ .string s → idsF (t.names ++ [s]) u = idsF t.names u) := by
    intro u hu
    unfold idsF
    split
    · rename_i x
      rw [pos_snoc _ _ _ (pos_none.1 hp), if_neg (by rintro rfl; exact hu rfl)]
    · rfl
  have hrow := h.nrow
  have HP := Lib.hid hp
  obtain ⟨a, c, rfl⟩ := row_slice h.nrow
  have H := Lib.hid h
  clear h hp
  go_enter Tryd.func6, Tryd.ntmps6
  go_wp2_with (first
    | (at_lookup; refine wpList_lookup_is _ rfl _ _ 32 rfl 9 3 lawStr Tryd.underlying32 Tryd.underlying3 (zero3 _) mi _ _ rfl hid (.string s) _ rfl hkey 0 false hf ?_)
    | (at_builtin; refine wpList_append_row _ rfl (.tmp 36) (.tmp 38) 31 rfl 9 (.string ⟨#[]⟩) 1 16 Tryd.underlying31 info9 rfl (by decide) (.slice a t.names.length c) _ _ rfl (hrow.alloc _) ⟨w.heap.size, 0, none⟩ 1 1 [.string s] rfl rfl (cell_one_new _ _ _) (by intro u hu; simp at hu; subst hu; rfl) (by unfold maxLen; omega) (by omega) ?_; intro a' c' w1 hown' hgrow hloc; have B1 := app_blk H.out hgrow; have H1 := Lib.hid B1; have d0 := cell_of_blk B1 0 rfl; have d1 := cell_of_blk B1 1 rfl; have fr := free_of_blk B1 0; clear B1))
  have B2 := blk_set H1.out 0 (.slice a' (t.names.length + 1) c')
  have hid1 : MapIs Tryd.prog 9 3 (w1.setCell ⟨b, 0, none⟩ (.slice a' (t.names.length + 1) c')) mi t.names.length (idsF t.names) := by
    refine hid.block ?_
    rw [Below.heap_setCell _ _ _ _ (Ne.symm hmb), hgrow.block mi (by have := hid.lt; simp; omega) (fun e => H.out.ni mi e.symm rfl), Below.heap_alloc _ _ _ hid.lt]
  generalize hw2 : w1.setCell ⟨b, 0, none⟩ (.slice a' (t.names.length + 1) c') = w2 at B2 hid1 ⊢
  refine wp_still_tail 11 (by kernel_rfl) (by kernel_rfl) ?_
  intro wd hwd
  have B3 := (blk_drew hwd b).trans B2
  have hid2 := hid1.block (blk_drew hwd mi)
  have f0 := cell_of_blk B3 0 rfl
  have f1 := cell_of_blk B3 1 rfl
  have H3 := Lib.hid B3
  clear B2 B3 hid1 hid c0 c1 d0 d1 fr hf
  have HW2 := Lib.hid hw2
  clear hw2
  simp only [List.take_succ_cons, List.take_zero, List.drop_succ_cons, List.drop_zero]
  repeat still_step
  refine wpStill_nil ?_
  refine wpList_mapUpdate_is _ rfl _ _ _ 32 rfl 9 3 lawStr Tryd.underlying32 Tryd.underlying3 mi t.names.length (idsF t.names) rfl hid2 (by unfold maxLen; omega) (.string s) t.names.length _ rfl (by simp [Act.eval]; exact IntWalk.i64_in _ (by omega)) (by apply WalkArith.wf_i64; omega) hkey (idsF (t.names ++ [s])) HF1.out HF2.out ?_
  intro w3 hm3 hg3 hs3
  have R := add_rep H.out hs HP.out hl hgrow hown' (by simpa using hloc) hm3 (by rw [HW2.out, ← hwd.out]; exact hg3)
  have B3 := (hg3.block b (lt_of_block H3.out) (fun e => hmb (Option.some.inj e))).trans H3.out
  have e0 := cell_of_blk B3 0 rfl
  clear B3
  go_wp2
  go_ret2
  exact ⟨by simp, R⟩

/-- Add. -/
theorem add_in {b : Nat} {t : Tab} {S : Nat → Prop} {w : World} (h : TabAt w b t S) (s : ByteArray) (hs : s.size ≤ maxLen) :
    Calls Tryd.prog 6 #[.pointer (some ⟨b, 0, none⟩), .string s] w fun e w' => e = .returned (.tuple #[.int .i64 (t.addRes s).1, .int .i64 (t.addRes s).2]) ∧ TabPost w S b (t.add s) w' := by
  by_cases hold : 60 < s.size ∨ s ∈ t.names ∨ 5000 ≤ t.names.length
  · refine (add_old h s hs hold).mono ?_
    rintro e w' ⟨rfl, rfl⟩
    have : t.add s = t := by
      unfold Tab.add
      by_cases h1 : 60 < s.size
      · rw [if_pos h1]
      · rw [if_neg h1]
        cases h2 : pos t.names s with
        | some i => rfl
        | none =>
          rcases hold with h3 | h3 | h3
          · exact absurd h3 h1
          · exact absurd h3 (pos_none.1 h2)
          · simp [h3]
    rw [this]
    exact ⟨rfl, S, h, Chg.refl _ _, fun k hk => .inl hk⟩
  · have h1 : ¬ 60 < s.size := fun h => hold (.inl h)
    have h2 : pos t.names s = none := pos_none.2 fun h => hold (.inr (.inl h))
    have h3 : ¬ 5000 ≤ t.names.length := fun h => hold (.inr (.inr h))
    have e1 : t.addRes s = ((t.names.length : Int), 0) := by simp [Tab.addRes, h1, h2, h3]
    have e2 : t.add s = { t with names := t.names ++ [s] } := by simp [Tab.add, h1, h2, h3]
    rw [e1, e2]
    exact add_new h s (by omega) h2 (by omega)
end Go.Proofs.YthjhjifihhhphaaDoor
