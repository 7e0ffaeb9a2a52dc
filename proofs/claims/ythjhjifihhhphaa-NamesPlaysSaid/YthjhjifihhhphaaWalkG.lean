/-
  The document's table of names: how it lies in memory, and the contracts of known, Find, New and Add. Helper text; the conditions are those typed.
-/
import Derived.Test.YthjhjifihhhphaaLawD
namespace Go.Proofs.Ythjhjifihhhphaa
set_option linter.unusedVariables false
set_option linter.unusedSimpArgs false
open Go.RowKit Go.Maps

/-- Block b is the document's table t; its own blocks are those of S. -/
structure RefIn (w : World) (b : Nat) (t : Tab) (nv lv : Value) (S : Nat → Prop) : Prop where
  blk : w.heap[b]? = some (.cells #[nv, lv] 49 (0, 0))
  nrow : w.ownsRow 0 9 1 nv t.names.length (t.names.map Value.string)
  lrow : w.ownsRow 0 24 3 lv t.rels.length (t.rels.flatMap relCells)
  ok : t.Ok
  sb : S b
  sn : ∀ k, nv.ownBlock = some k → S k
  sl : ∀ k, lv.ownBlock = some k → S k
  bn : ∀ k, nv.ownBlock = some k → k ≠ b
  bl : ∀ k, lv.ownBlock = some k → k ≠ b
  nl : ∀ k, nv.ownBlock = some k → lv.ownBlock ≠ some k
  slt : ∀ k, S k → k < w.heap.size

def RefAt (w : World) (b : Nat) (t : Tab) (S : Nat → Prop) : Prop := ∃ nv lv, RefIn w b t nv lv S

theorem RefAt.kept {w w' : World} {b : Nat} {t : Tab} {S : Nat → Prop} (h : RefAt w b t S) (hs : w.heap.size ≤ w'.heap.size) (hb : ∀ k, S k → w'.heap[k]? = w.heap[k]?) : RefAt w' b t S := by
  obtain ⟨nv, lv, h⟩ := h
  exact ⟨nv, lv, (hb b h.sb).trans h.blk, ownsRow_block h.nrow (fun g hg => hb g (h.sn g hg)), ownsRow_block h.lrow (fun g hg => hb g (h.sl g hg)), h.ok, h.sb, h.sn, h.sl, h.bn, h.bl, h.nl, fun k hk => Nat.lt_of_lt_of_le (h.slt k hk) hs⟩

theorem RefAt.lt {w : World} {b : Nat} {t : Tab} {S : Nat → Prop} (h : RefAt w b t S) (k : Nat) (hk : S k) : k < w.heap.size := by
  obtain ⟨nv, lv, h⟩ := h
  exact h.slt k hk

theorem RefAt.chg {w w' : World} {b : Nat} {t : Tab} {S S' : Nat → Prop} (h : RefAt w b t S) (hc : Chg S' w w') (hd : ∀ k, S k → ¬ S' k) : RefAt w' b t S :=
  h.kept hc.size (fun k hk => hc.block k (h.lt k hk) (hd k hk))

theorem RefAt.ok {w : World} {b : Nat} {t : Tab} {S : Nat → Prop} (h : RefAt w b t S) : t.Ok := by
  obtain ⟨nv, lv, h⟩ := h
  exact h.ok

def RefPost (w : World) (S : Nat → Prop) (b : Nat) (t' : Tab) (w' : World) : Prop :=
  ∃ S', RefAt w' b t' S' ∧ Chg S w w' ∧ ∀ k, S' k → S k ∨ w.heap.size ≤ k

theorem pos_of_first {α : Type} [DecidableEq α] {l : List α} {x : α} {k : Nat} (h : ∀ i, i < k → l[i]? ≠ some x) (hk : l[k]? = some x) : pos l x = some k := by
  unfold pos
  have hl : k < l.length := (List.getElem?_eq_some_iff.1 hk).1
  rw [List.findIdx?_eq_some_iff_getElem]
  refine ⟨hl, ?_, fun j hj => ?_⟩
  · rw [List.getElem?_eq_getElem hl] at hk
    simpa using hk
  · have := h j hj
    rw [List.getElem?_eq_getElem (by omega)] at this
    simpa using this

theorem pos_none_of {α : Type} [DecidableEq α] {l : List α} {x : α} (h : ∀ i, i < l.length → l[i]? ≠ some x) : pos l x = none := by
  rw [pos_none]
  intro hm
  obtain ⟨i, hi⟩ := List.mem_iff_getElem?.1 hm
  exact h i (List.getElem?_eq_some_iff.1 hi).1 hi

theorem str_ne {a b : ByteArray} (h : a ≠ b) : (a.toList == b.toList) = false := by
  rw [Bool.eq_false_iff]
  intro e
  simp only [beq_iff_eq] at e
  rw [ByteArray.toList_eq, ByteArray.toList_eq] at e
  exact h (ByteArray.ext (Array.toList_inj.mp e))

theorem rknown_in {b : Nat} {t : Tab} {S : Nat → Prop} {w : World} (h : RefAt w b t S) (i : Int) :
    Calls Try.prog 23 #[.pointer (some ⟨b, 0, none⟩), .int .i64 i] w fun e w' => e = .returned (.bool (t.known i)) ∧ w = w' := by
  obtain ⟨nv, lv, h⟩ := h
  obtain ⟨a, c, rfl⟩ := row_slice h.nrow
  have c0 := cell_of_blk h.blk 0 rfl
  clear h
  by_cases h : 0 ≤ i
  · go_enter Try.func23, Try.ntmps23
    go_wp2
    go_ret
    exact ⟨by simp [Tab.known, h], rfl⟩
  · have h' : decide (0 ≤ i) = false := by simpa using h
    go_enter Try.func23, Try.ntmps23
    go_wp2
    go_ret
    exact ⟨by simp [Tab.known, h'], rfl⟩

theorem rfind_in {b : Nat} {t : Tab} {S : Nat → Prop} {w : World} (h : RefAt w b t S) (s : ByteArray) :
    Calls Try.prog 21 #[.pointer (some ⟨b, 0, none⟩), .string s] w fun e w' => e = .returned (.tuple #[.int .i64 (t.find s).1, .bool (t.find s).2]) ∧ w = w' := by
  obtain ⟨nv, lv, h⟩ := h
  have hmany := h.ok.many
  obtain ⟨a, c, rfl⟩ := row_slice h.nrow
  have c0 := cell_of_blk h.blk 0 rfl
  have HR := Lib.hid h.nrow
  clear h
  go_enter Try.func21, Try.ntmps21
  go_wp2_with fail
  go_loopw [6] (fun i wr => ∃ k : Nat, k ≤ t.names.length ∧ i = .int .i64 k ∧ w = wr ∧ ∀ j, j < k → t.names[j]? ≠ some s) (fun i _ => t.names.length - (intOf i).toNat)
  case atStart => exact ⟨0, Nat.zero_le _, rfl, rfl, fun j hj => absurd hj (Nat.not_lt_zero j)⟩
  case round =>
    obtain ⟨k, hk, rfl, rfl, hpre⟩ := hrel
    have HP := Lib.hid hpre
    clear hpre
    by_cases hkl : k < t.names.length
    · obtain ⟨g, rfl⟩ : ∃ g, a = some ⟨g, 0, none⟩ := by
        rcases HR.out.2 with ⟨h0, h1⟩ | ⟨g, gc, _, h0, _⟩
        · simp at h0
          omega
        · simp at h0
          exact ⟨g, h0.1⟩
      have ck := HR.out.cellAt k (by omega)
      have ck' : w.cell? ⟨g, k, none⟩ = some (.string t.names[k]) := by rw [ck]; simp [hkl]
      clear ck
      have hlt : (k : Int) < (t.names.length : Int) := by omega
      by_cases he : t.names[k] = s
      · have hf : t.find s = ((k : Int), true) := Tab.find_of_pos (pos_of_first HP.out (by rw [List.getElem?_eq_getElem hkl, he]))
        have hB : (t.names[k].toList == s.toList) = true := by rw [he]; simp
        have HF := Lib.hid hf
        clear hf he
        go_wp2
        go_ret2
        exact ⟨by rw [HF.out]; rfl, by trivial⟩
      · have hB := str_ne he
        go_wp2
        go_roundw
        case rel =>
          refine ⟨k + 1, by omega, by go_num, by trivial, fun j hj => ?_⟩
          by_cases hjk : j < k
          · exact HP.out j hjk
          · have : j = k := by omega
            subst this
            rw [List.getElem?_eq_getElem hkl]
            intro e
            exact he (Option.some.inj e)
        case measure => simp [intOf]; omega
    · have hf : t.find s = (0, false) := by
        have : pos t.names s = none := pos_none_of (fun i hi => HP.out i (by omega))
        simp [Tab.find, this]
      have HF := Lib.hid hf
      clear hf
      have hlt : ¬ (k : Int) < (t.names.length : Int) := by omega
      go_wp2
      go_ret2
      exact ⟨by rw [HF.out]; rfl, by trivial⟩

theorem rnew_in (w : World) :
    Calls Try.prog 15 #[] w fun e w' => ∃ b, e = .returned (.pointer (some ⟨b, 0, none⟩)) ∧ RefPost w (fun _ => False) b Tab.new w' := by
  go_enter Try.func15, Try.ntmps15
  go_wp2
  refine bodyPost_ret (v := .pointer (some ⟨w.heap.size + 1, 0, none⟩)) (by simp [results, Try.results15, go_sem]) rfl ⟨w.heap.size + 1, rfl, fun k => w.heap.size ≤ k ∧ k < w.heap.size + 2, ⟨.slice (some ⟨w.heap.size, 0, none⟩) 1 1, .slice none 0 0, ⟨?_, ?_, ?_, Tab.new_ok, by omega, ?_, ?_, ?_, ?_, ?_, fun k hk => by simp; omega⟩⟩, ?_, fun k hk => .inr hk.1⟩
  · have := heap_alloc_new (w.alloc (.cells #[.string ⟨#[]⟩] 9)) (.cells #[.slice (some ⟨w.heap.size, 0, none⟩) 1 1, .slice none 0 0] 49)
    simpa using this
  · refine ⟨by simp [Tab.new], .inr ⟨w.heap.size, 1, #[.string ⟨#[]⟩], rfl, Nat.zero_le _, ?_, by simp [Tab.new], by unfold maxLen; omega, by simp, by simp [Tab.new]; rfl⟩⟩
    rw [Below.heap_alloc _ _ _ (by simp)]
    exact heap_alloc_new w _
  · exact World.ownsRow_nil _ _ _ _
  · intro k hk; simp [Value.ownBlock] at hk; omega
  · intro k hk; simp [Value.ownBlock] at hk
  · intro k hk; simp [Value.ownBlock] at hk; omega
  · intro k hk; simp [Value.ownBlock] at hk
  · intro k hk; simp [Value.ownBlock]
  · exact ((Chg.refl _ _).alloc _).alloc _

/-- The table behind Add's writes: the row of names has grown (w1), the field has been stored. -/
theorem radd_rep {b : Nat} {t : Tab} {S : Nat → Prop} {w w1 : World} {nv lv nv' : Value} {o : Obj} {s : ByteArray} (h : RefIn w b t nv lv S) (hs : s.size ≤ 60) (hp : pos t.names s = none) (hl : t.names.length < 5000)
    (hg : (w.alloc o).grownBy w1 nv.ownBlock) (hown : w1.ownsRow 0 9 1 nv' (t.names.length + 1) (t.names.map Value.string ++ [.string s])) (hloc : nv'.ownBlock = nv.ownBlock ∨ nv'.ownBlock = some (w.heap.size + 1)) :
    RefPost w S b { t with names := t.names ++ [s] } (w1.setCell ⟨b, 0, none⟩ nv') := by
  have hbw : b < w.heap.size := h.slt b h.sb
  have hz1 : w.heap.size + 1 ≤ w1.heap.size := by have := hg.size; simpa using this
  have hz2 : (w1.setCell ⟨b, 0, none⟩ nv').heap.size = w1.heap.size := by simp [World.setCell]
  have key : ∀ k, k < w.heap.size → nv.ownBlock ≠ some k → w1.heap[k]? = w.heap[k]? := by
    intro k hk h1
    rw [hg.block k (by simp; omega) (fun e => h1 e.symm), Below.heap_alloc _ _ _ hk]
  have hin : ∀ k, nv'.ownBlock = some k → nv.ownBlock = some k ∨ k = w.heap.size + 1 := by
    intro k hk
    rcases hloc with h1 | h1
    · exact .inl (h1 ▸ hk)
    · rw [h1] at hk; cases hk; exact .inr rfl
  have hlt : ∀ k, nv'.ownBlock = some k → k < w1.heap.size := fun k hk => (hown.lt k hk).2
  refine ⟨fun k => S k ∨ (w.heap.size ≤ k ∧ k < w1.heap.size), ⟨nv', lv, ?_, ?_, ?_, ?_, .inl h.sb, ?_, fun k hk => .inl (h.sl k hk), ?_, h.bl, ?_, ?_⟩, ?_, ?_⟩
  · exact blk_set ((key b hbw (fun e => h.bn b e rfl)).trans h.blk) 0 nv'
  · have := ownsRow_block (w' := w1.setCell ⟨b, 0, none⟩ nv') hown (fun g hg' => Below.heap_setCell _ _ _ _ (by
      rcases hin g hg' with h1 | h1
      · exact h.bn g h1
      · show g ≠ b; omega))
    simpa using this
  · refine ownsRow_block h.lrow (fun g hg' => ?_)
    rw [Below.heap_setCell _ _ _ _ (h.bl g hg'), key g (h.slt g (h.sl g hg')) (fun e => h.nl g e hg')]
  · have := Tab.add_ok h.ok s
    unfold Tab.add at this
    rw [if_neg (by omega), hp] at this
    simp only [if_neg (show ¬ 5000 ≤ t.names.length by omega)] at this
    exact this
  · intro k hk
    rcases hin k hk with h1 | h1
    · exact .inl (h.sn k h1)
    · exact .inr ⟨by omega, hlt k hk⟩
  · intro k hk
    rcases hin k hk with h1 | h1
    · exact h.bn k h1
    · omega
  · intro k hk hk2
    rcases hin k hk with h1 | h1
    · exact h.nl k h1 hk2
    · have := h.slt k (h.sl k hk2); omega
  · intro k hk
    rw [hz2]
    rcases hk with hk | hk
    · have := h.slt k hk; omega
    · exact hk.2
  · exact (((Chg.refl S w).alloc o).grown hg (fun k hk _ => h.sn k hk)).setCell _ (fun _ => h.sb) _
  · rintro k (hk | hk)
    · exact .inl hk
    · exact .inr hk.1

set_option maxRecDepth 100000 in
theorem radd_in {b : Nat} {t : Tab} {S : Nat → Prop} {w : World} (h : RefAt w b t S) (s : ByteArray) (hs : s.size ≤ maxLen) :
    Calls Try.prog 20 #[.pointer (some ⟨b, 0, none⟩), .string s] w fun e w' => e = .returned (.tuple #[.int .i64 (t.addRes s).1, .int .i64 (t.addRes s).2]) ∧ RefPost w S b (t.add s) w' := by
  have hF := Lib.hid (rfind_in h s)
  have h0 := h
  obtain ⟨nv, lv, h⟩ := h
  have hmany := h.ok.many
  unfold maxLen at hs
  have same : ∀ w', w = w' → t.add s = t → RefPost w S b (t.add s) w' := by
    rintro w' rfl e
    rw [e]
    exact ⟨S, h0, Chg.refl _ _, fun k hk => .inl hk⟩
  have HSame := Lib.hid same
  clear same
  by_cases hl : 60 < s.size
  · have hr : t.addRes s = (0, 21) := by simp [Tab.addRes, hl]
    have ha : t.add s = t := by simp [Tab.add, hl]
    rw [hr]
    have hl' : (60 : Int) < (s.size : Int) := by omega
    clear h h0 hr
    go_enter Try.func20, Try.ntmps20
    go_wp2
    go_ret2
    exact ⟨rfl, HSame.out _ rfl ha⟩
  · have hl' : ¬ (60 : Int) < (s.size : Int) := by omega
    cases hp : pos t.names s with
    | some i =>
      have hr : t.addRes s = ((i : Int), 0) := by simp [Tab.addRes, hl, hp]
      have ha : t.add s = t := by simp [Tab.add, hl, hp]
      have hf : t.find s = ((i : Int), true) := Tab.find_of_pos hp
      rw [hf] at hF
      rw [hr]
      clear h h0 hr hp hf
      go_enter Try.func20, Try.ntmps20
      go_wp2_with fail
      refine hF.out.mono ?_
      rintro e w' ⟨rfl, rfl⟩
      go_wp2
      go_ret2
      exact ⟨rfl, HSame.out _ rfl ha⟩
    | none =>
      have hf : t.find s = (0, false) := by simp [Tab.find, hp]
      rw [hf] at hF
      obtain ⟨a, c, rfl⟩ := row_slice h.nrow
      have c0 := cell_of_blk h.blk 0 rfl
      by_cases h5 : 5000 ≤ t.names.length
      · have hr : t.addRes s = (0, 20) := by simp [Tab.addRes, hl, hp, h5]
        have ha : t.add s = t := by simp [Tab.add, hl, hp, h5]
        have h5' : (5000 : Int) ≤ (t.names.length : Int) := by omega
        rw [hr]
        clear h h0 hr hp hf
        go_enter Try.func20, Try.ntmps20
        go_wp2_with fail
        refine hF.out.mono ?_
        rintro e w' ⟨rfl, rfl⟩
        go_wp2
        go_ret2
        exact ⟨rfl, HSame.out _ rfl ha⟩
      · have hr : t.addRes s = ((t.names.length : Int), 0) := by simp [Tab.addRes, hl, hp, h5]
        have ha : t.add s = { t with names := t.names ++ [s] } := by simp [Tab.add, hl, hp, h5]
        have h5' : ¬ (5000 : Int) ≤ (t.names.length : Int) := by omega
        rw [hr, ha]
        have H := Lib.hid h
        have HP := Lib.hid hp
        have hrow := h.nrow
        clear h h0 hr hf hp ha HSame
        go_enter Try.func20, Try.ntmps20
        go_wp2_with fail
        refine hF.out.mono ?_
        rintro e w' ⟨rfl, rfl⟩
        go_wp2_with (at_builtin; refine wpList_append_row _ rfl (.tmp 29) (.tmp 31) 23 rfl 9 (.string ⟨#[]⟩) 1 16 Try.underlying23 info9 rfl (by decide) (.slice a t.names.length c) _ _ rfl (hrow.alloc _) ⟨w.heap.size, 0, none⟩ 1 1 [.string s] rfl rfl (cell_one_new _ _ _) (by intro u hu; simp at hu; subst hu; rfl) (by unfold maxLen; omega) (by omega) ?_; intro a' c' w1 hown' hgrow hloc; have B1 := (hgrow.block b (by have := H.out.slt b H.out.sb; simp; omega) (fun e => H.out.bn b e.symm rfl)).trans ((Below.heap_alloc _ _ _ (H.out.slt b H.out.sb)).trans H.out.blk); have d0 := cell_of_blk B1 0 rfl; have fr := free_of_blk B1 0; have R := Lib.hid (radd_rep H.out (by omega) HP.out (by omega) hgrow hown' (by simpa using hloc)); have B2 := blk_set B1 0 (.slice a' (t.names.length + 1) c'); have e0 := cell_of_blk B2 0 rfl; clear B1 B2)
        go_ret2
        exact ⟨by simp, R.out⟩
end Go.Proofs.Ythjhjifihhhphaa
