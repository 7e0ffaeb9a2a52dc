/-
  Relate of the document's table of names. Helper text; the conditions are those typed.
-/
import Derived.Test.YthjhjifihhhphaaWalkG
namespace Go.Proofs.Ythjhjifihhhphaa
set_option linter.unusedVariables false
set_option linter.unusedSimpArgs false
open Go.RowKit Go.Maps

/-- The table behind Relate's writes: the row of comparisons has grown (w1), the field has been stored. -/
theorem rrel_rep {b : Nat} {t : Tab} {S : Nat → Prop} {w w1 : World} {nv lv lv' : Value} {o : Obj} {x op y : Int} (h : RefIn w b t nv lv S) (hok : ({ t with rels := t.rels ++ [(x, op, y)] } : Tab).Ok)
    (hg : (w.alloc o).grownBy w1 lv.ownBlock) (hown : w1.ownsRow 0 24 3 lv' (t.rels.length + 1) (t.rels.flatMap relCells ++ [.int .i64 x, .int .i64 op, .int .i64 y])) (hloc : lv'.ownBlock = lv.ownBlock ∨ lv'.ownBlock = some (w.heap.size + 1)) :
    RefPost w S b { t with rels := t.rels ++ [(x, op, y)] } (w1.setCell ⟨b, 1, none⟩ lv') := by
  have hbw : b < w.heap.size := h.slt b h.sb
  have hz1 : w.heap.size + 1 ≤ w1.heap.size := by have := hg.size; simpa using this
  have hz2 : (w1.setCell ⟨b, 1, none⟩ lv').heap.size = w1.heap.size := by simp [World.setCell]
  have key : ∀ k, k < w.heap.size → lv.ownBlock ≠ some k → w1.heap[k]? = w.heap[k]? := by
    intro k hk h1
    rw [hg.block k (by simp; omega) (fun e => h1 e.symm), Below.heap_alloc _ _ _ hk]
  have hin : ∀ k, lv'.ownBlock = some k → lv.ownBlock = some k ∨ k = w.heap.size + 1 := by
    intro k hk
    rcases hloc with h1 | h1
    · exact .inl (h1 ▸ hk)
    · rw [h1] at hk; cases hk; exact .inr rfl
  have hlt : ∀ k, lv'.ownBlock = some k → k < w1.heap.size := fun k hk => (hown.lt k hk).2
  refine ⟨fun k => S k ∨ (w.heap.size ≤ k ∧ k < w1.heap.size), ⟨nv, lv', ?_, ?_, ?_, hok, .inl h.sb, fun k hk => .inl (h.sn k hk), ?_, h.bn, ?_, ?_, ?_⟩, ?_, ?_⟩
  · exact blk_set ((key b hbw (fun e => h.bl b e rfl)).trans h.blk) 1 lv'
  · refine ownsRow_block h.nrow (fun g hg' => ?_)
    rw [Below.heap_setCell _ _ _ _ (h.bn g hg'), key g (h.slt g (h.sn g hg')) (fun e => h.nl g hg' e)]
  · have := ownsRow_block (w' := w1.setCell ⟨b, 1, none⟩ lv') hown (fun g hg' => Below.heap_setCell _ _ _ _ (by
      rcases hin g hg' with h1 | h1
      · exact h.bl g h1
      · show g ≠ b; omega))
    simpa [relCells] using this
  · intro k hk
    rcases hin k hk with h1 | h1
    · exact .inl (h.sl k h1)
    · exact .inr ⟨by omega, hlt k hk⟩
  · intro k hk
    rcases hin k hk with h1 | h1
    · exact h.bl k h1
    · omega
  · intro k hk hk2
    rcases hin k hk2 with h1 | h1
    · exact h.nl k hk h1
    · have := h.slt k (h.sn k hk); omega
  · intro k hk
    rw [hz2]
    rcases hk with hk | hk
    · have := h.slt k hk; omega
    · exact hk.2
  · exact (((Chg.refl S w).alloc o).grown hg (fun k hk _ => h.sl k hk)).setCell _ (fun _ => h.sb) _
  · rintro k (hk | hk)
    · exact .inl hk
    · exact .inr hk.1

theorem RefPost.same {w w' : World} {S : Nat → Prop} {b : Nat} {t : Tab} (h : RefAt w b t S) (hc : Chg (fun _ => False) w w') : RefPost w S b t w' :=
  ⟨S, h.chg hc (fun _ _ h => h), hc.mono (fun _ _ h => h.elim), fun k hk => .inl hk⟩

set_option maxRecDepth 100000 in
theorem rrel_bad {b : Nat} {t : Tab} {S : Nat → Prop} {w : World} (h : RefAt w b t S) (x op y : Int) (hbad : (t.known x && t.known y) = false ∨ op < 1 ∨ 7 < op) :
    Calls Try.prog 22 #[.pointer (some ⟨b, 0, none⟩), .int .i64 x, .int .i64 op, .int .i64 y] w fun e w' => e = .returned (.tuple #[.int .i64 (t.relRes x op y).1, .int .i64 (t.relRes x op y).2]) ∧ w = w' := by
  have hx := Lib.hid (rknown_in h x)
  have hy := Lib.hid (rknown_in h y)
  clear h
  cases hkx : t.known x with
  | false =>
    rw [hkx] at hx
    have hr : t.relRes x op y = (0, 22) := by simp [Tab.relRes, hkx]
    rw [hr]
    cases hky : t.known y
    all_goals
      rw [hky] at hy
      clear hr hbad hkx hky
      go_enter Try.func22, Try.ntmps22
      go_wp2_with fail
      refine hx.out.mono ?_; rintro e w' ⟨rfl, rfl⟩
      go_wp2_with fail
      refine hy.out.mono ?_; rintro e w' ⟨rfl, rfl⟩
      go_wp2
      go_ret2
      exact ⟨rfl, rfl⟩
  | true =>
    rw [hkx] at hx
    cases hky : t.known y with
    | false =>
      rw [hky] at hy
      have hr : t.relRes x op y = (0, 22) := by simp [Tab.relRes, hkx, hky]
      rw [hr]
      clear hr hbad hkx hky
      go_enter Try.func22, Try.ntmps22
      go_wp2_with fail
      refine hx.out.mono ?_; rintro e w' ⟨rfl, rfl⟩
      go_wp2_with fail
      refine hy.out.mono ?_; rintro e w' ⟨rfl, rfl⟩
      go_wp2
      go_ret2
      exact ⟨rfl, rfl⟩
    | true =>
      rw [hky] at hy
      have hop : op < 1 ∨ 7 < op := by
        rcases hbad with h1 | h1
        · simp [hkx, hky] at h1
        · exact h1
      have hr : t.relRes x op y = (0, 23) := by simp [Tab.relRes, hkx, hky, hop]
      rw [hr]
      clear hr hbad hkx hky
      rcases hop with h1 | h1
      all_goals
        go_enter Try.func22, Try.ntmps22
        go_wp2_with fail
        refine hx.out.mono ?_; rintro e w' ⟨rfl, rfl⟩
        go_wp2_with fail
        refine hy.out.mono ?_; rintro e w' ⟨rfl, rfl⟩
        go_wp2
        all_goals
          go_ret2
          exact ⟨rfl, rfl⟩

/-- What Relate does to the document's table: one proposition for the answer and the table behind it. -/
def RelDone (w : World) (S : Nat → Prop) (b : Nat) (t : Tab) (x op y : Int) (e : Ending) (w' : World) : Prop :=
  e = .returned (.tuple #[.int .i64 (t.relRes x op y).1, .int .i64 (t.relRes x op y).2]) ∧ RefPost w S b (t.rel x op y) w'

theorem rel3_ne {r : Int × Int × Int} {x op y : Int} (h : r ≠ (x, op, y)) : ¬ (r.1 = x ∧ r.2.1 = op ∧ r.2.2 = y) := by
  rintro ⟨h1, h2, h3⟩
  exact h (Prod.ext h1 (Prod.ext h2 h3))

set_option maxRecDepth 100000 in
set_option maxHeartbeats 1000000 in
theorem rrel_good {b : Nat} {t : Tab} {S : Nat → Prop} {w : World} (h : RefAt w b t S) (x op y : Int) (hkx : t.known x = true) (hky : t.known y = true) (h1 : 1 ≤ op) (h7 : op ≤ 7) :
    Calls Try.prog 22 #[.pointer (some ⟨b, 0, none⟩), .int .i64 x, .int .i64 op, .int .i64 y] w (RelDone w S b t x op y) := by
  have hx := Lib.hid (hkx ▸ rknown_in h x)
  have hy := Lib.hid (hky ▸ rknown_in h y)
  have hrmany := h.ok.rmany
  have HOK := Lib.hid (Tab.rel_ok h.ok x op y)
  have H0 := Lib.hid h
  have hne1 : ¬ op < 1 := by omega
  have hne7 : ¬ 7 < op := by omega
  have HK : Hid ((t.known x && t.known y) = true ∧ ¬ (op < 1 ∨ 7 < op)) := ⟨by simp [hkx, hky], by omega⟩
  clear h hkx hky
  go_enter Try.func22, Try.ntmps22
  go_wp2_with fail
  refine hx.out.mono ?_; rintro e w' ⟨rfl, rfl⟩
  go_wp2_with fail
  refine hy.out.mono ?_; rintro e w' ⟨rfl, rfl⟩
  go_wp2_with fail
  go_loopw [12] (fun i wr => ∃ k : Nat, k ≤ t.rels.length ∧ i = .int .i64 k ∧ RefAt wr b t S ∧ Chg (fun _ => False) w wr ∧ ∀ j, j < k → t.rels[j]? ≠ some (x, op, y)) (fun i _ => t.rels.length - (intOf i).toNat)
  case atStart => exact ⟨0, Nat.zero_le _, rfl, H0.out, Chg.refl _ _, fun j hj => absurd hj (Nat.not_lt_zero j)⟩
  case round =>
    obtain ⟨k, hk, rfl, hra, hch, hpre⟩ := hrel
    have HP := Lib.hid hpre
    have HCh := Lib.hid hch
    have HA := Lib.hid hra
    clear hpre hch
    obtain ⟨nv, lv, hra⟩ := hra
    obtain ⟨a, c, rfl⟩ := row_slice hra.lrow
    have c1 := cell_of_blk hra.blk 1 rfl
    have HR := Lib.hid hra.lrow
    have HI := Lib.hid hra
    clear hra
    by_cases hkl : k < t.rels.length
    · obtain ⟨g, rfl⟩ : ∃ g, a = some ⟨g, 0, none⟩ := by
        rcases HR.out.2 with ⟨h0, h1⟩ | ⟨g, gc, _, h0, _⟩
        · simp at h0
          omega
        · simp at h0
          exact ⟨g, h0.1⟩
      obtain ⟨f0, f1, f2⟩ := flat_rel t.rels k t.rels[k] (by simp)
      have k0 := HR.out.cellAt (k * 3) (by omega)
      have k1 := HR.out.cellAt (k * 3 + 1) (by omega)
      have k2 := HR.out.cellAt (k * 3 + 2) (by omega)
      rw [f0] at k0
      rw [f1] at k1
      rw [f2] at k2
      have hlt : (k : Int) < (t.rels.length : Int) := by omega
      have hget : t.rels[k]? = some t.rels[k] := List.getElem?_eq_getElem hkl
      clear f0 f1 f2
      generalize t.rels[k] = r at k0 k1 k2 hget
      obtain ⟨r0, r1, r2⟩ := r
      have HG := Lib.hid hget
      clear hget
      by_cases he : (r0, r1, r2) = (x, op, y)
      · have hp : pos t.rels (x, op, y) = some k := pos_of_first HP.out (by rw [HG.out, he])
        have hr : t.relRes x op y = ((k : Int), 0) := by simp [Tab.relRes, HK.out, hp]
        have hl : t.rel x op y = t := by simp [Tab.rel, HK.out, hp]
        obtain ⟨rfl, rfl, rfl⟩ : r0 = x ∧ r1 = op ∧ r2 = y := by simpa using he
        have HX := Lib.hid hr
        have HL := Lib.hid hl
        clear hp hr hl he
        go_wp2
        go_ret2
        refine ⟨by rw [HX.out]; rfl, ?_⟩
        rw [HL.out]
        exact RefPost.same H0.out (HCh.out.alloc _)
      · have hnext : Hid (∀ j, j < k + 1 → t.rels[j]? ≠ some (x, op, y)) := by
          intro j hj
          by_cases hjk : j < k
          · exact HP.out j hjk
          · have : j = k := by omega
            subst this
            rw [HG.out]
            intro e
            exact he (Option.some.inj e)
        have hA2 : Hid (∀ o, RefAt (wr.alloc o) b t S) := fun o => HA.out.chg ((Chg.refl (fun _ => False) _).alloc o) (fun _ _ h => h)
        have hne := rel3_ne he
        clear he
        by_cases e0 : r0 = x
        · subst e0
          by_cases e1 : r1 = op
          · subst e1
            have e2 : (r2 == y) = false := by simpa using hne
            clear hne
            go_wp2
            go_roundw
            case rel => exact ⟨k + 1, by omega, by go_num, hA2.out _, HCh.out.alloc _, hnext.out⟩
            case measure => simp [intOf]; omega
          · have e1 : (r1 == op) = false := by simpa using e1
            clear hne
            go_wp2
            go_roundw
            case rel => exact ⟨k + 1, by omega, by go_num, hA2.out _, HCh.out.alloc _, hnext.out⟩
            case measure => simp [intOf]; omega
        · have e0 : (r0 == x) = false := by simpa using e0
          clear hne
          go_wp2
          go_roundw
          case rel => exact ⟨k + 1, by omega, by go_num, hA2.out _, HCh.out.alloc _, hnext.out⟩
          case measure => simp [intOf]; omega
    · have hlt : ¬ (k : Int) < (t.rels.length : Int) := by omega
      have hp : pos t.rels (x, op, y) = none := pos_none_of (fun i hi => HP.out i (by omega))
      by_cases h5 : 5000 ≤ t.rels.length
      · have hr : t.relRes x op y = (0, 20) := by simp [Tab.relRes, HK.out, hp, h5]
        have hl : t.rel x op y = t := by simp [Tab.rel, HK.out, hp, h5]
        have HX := Lib.hid hr
        have HL := Lib.hid hl
        have h5' : (5000 : Int) ≤ (t.rels.length : Int) := by omega
        clear hp hr hl
        go_wp2
        go_ret2
        refine ⟨by rw [HX.out]; rfl, ?_⟩
        rw [HL.out]
        exact RefPost.same H0.out HCh.out
      · have hr : t.relRes x op y = ((t.rels.length : Int), 0) := by simp [Tab.relRes, HK.out, hp, h5]
        have hl : t.rel x op y = { t with rels := t.rels ++ [(x, op, y)] } := by simp [Tab.rel, HK.out, hp, h5]
        have HX := Lib.hid hr
        have HL := Lib.hid hl
        have h5' : ¬ (5000 : Int) ≤ (t.rels.length : Int) := by omega
        have hl3 : (t.rels.flatMap relCells).length = t.rels.length * 3 := by have := HR.out.1; simpa using this
        rw [hl] at HOK
        clear hp hr hl
        go_wp2_with (at_builtin; refine wpList_append_row _ rfl (.tmp 75) (.tmp 80) 47 rfl 24 (.agg #[.int .i64 0, .int .i64 0, .int .i64 0]) 3 24 Try.underlying47 info24 rfl (by decide) (.slice a t.rels.length c) _ _ rfl (HR.out.alloc _) ⟨wr.heap.size, 0, none⟩ 1 1 [.int .i64 x, .int .i64 op, .int .i64 y] rfl rfl (cells_new _ _ _) (by intro u hu; simp at hu; rcases hu with rfl | rfl | rfl <;> rfl) (by unfold maxLen; omega) (by omega) ?_; intro a' c' w1 hown' hgrow hloc; have B1 := (hgrow.block b (by have := HI.out.slt b HI.out.sb; simp; omega) (fun e => HI.out.bl b e.symm rfl)).trans ((Below.heap_alloc _ _ _ (HI.out.slt b HI.out.sb)).trans HI.out.blk); have d0 := cell_of_blk B1 1 rfl; have fr := free_of_blk B1 1; have R := Lib.hid (rrel_rep HI.out HOK.out hgrow hown' (by simpa using hloc)); have B2 := blk_set B1 1 (.slice a' (t.rels.length + 1) c'); have e0 := cell_of_blk B2 1 rfl; clear B1 B2)
        go_ret2
        refine ⟨by rw [HX.out]; simp, ?_⟩
        rw [HL.out]
        obtain ⟨S', r1, r2, r3⟩ := R.out
        refine ⟨S', r1, (HCh.out.mono (fun _ _ h => h.elim)).trans r2 (fun _ _ h => h), fun k hk => ?_⟩
        rcases r3 k hk with h | h
        · exact .inl h
        · exact .inr (by have := HCh.out.size; omega)

theorem rrel_in {b : Nat} {t : Tab} {S : Nat → Prop} {w : World} (h : RefAt w b t S) (x op y : Int) :
    Calls Try.prog 22 #[.pointer (some ⟨b, 0, none⟩), .int .i64 x, .int .i64 op, .int .i64 y] w (RelDone w S b t x op y) := by
  by_cases hbad : (t.known x && t.known y) = false ∨ op < 1 ∨ 7 < op
  · refine (rrel_bad h x op y hbad).mono ?_
    rintro e w' ⟨rfl, rfl⟩
    have : t.rel x op y = t := by
      unfold Tab.rel
      rcases hbad with h1 | h1
      · simp [h1]
      · rw [if_pos h1]; split <;> rfl
    exact ⟨rfl, by rw [this]; exact RefPost.same h (Chg.refl _ _)⟩
  · have h1 : (t.known x && t.known y) = true := by
      cases hk : t.known x && t.known y with
      | false => exact absurd (.inl hk) hbad
      | true => rfl
    simp only [Bool.and_eq_true] at h1
    exact rrel_good h x op y h1.1 h1.2 (by omega) (by omega)
end Go.Proofs.Ythjhjifihhhphaa
