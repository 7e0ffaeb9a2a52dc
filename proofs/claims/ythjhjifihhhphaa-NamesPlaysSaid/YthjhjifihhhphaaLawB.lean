/-
  The walks of NamesNil and NamesApart. Helper text; the conditions are those typed.
-/
import Derived.Test.YthjhjifihhhphaaLawA
import Derived.DeepKeys
namespace Go.Proofs.Ythjhjifihhhphaa
set_option linter.unusedVariables false
set_option linter.unusedSimpArgs false
open Go.RowKit Go.Maps

theorem add_nil (s : ByteArray) (w : World) : Calls Try.prog 10 #[.pointer none, .string s] w fun e w' => e = .returned (.tuple #[.int .i64 0, .int .i64 1]) ∧ w = w' := by
  go_enter Try.func10, Try.ntmps10
  go_wp2
  go_ret2
  exact ⟨rfl, rfl⟩
theorem find_nil (s : ByteArray) (w : World) : Calls Try.prog 13 #[.pointer none, .string s] w fun e w' => e = .returned (.tuple #[.int .i64 0, .bool false]) ∧ w = w' := by
  go_enter Try.func13, Try.ntmps13
  go_wp2
  go_ret2
  exact ⟨rfl, rfl⟩
theorem name_nil (i : Int) (w : World) : Calls Try.prog 14 #[.pointer none, .int .i64 i] w fun e w' => e = .returned (.tuple #[.string ⟨#[]⟩, .int .i64 1]) ∧ w = w' := by
  go_enter Try.func14, Try.ntmps14
  go_wp2
  go_ret2
  exact ⟨rfl, rfl⟩
theorem rel_nil (x y z : Int) (w : World) : Calls Try.prog 11 #[.pointer none, .int .i64 x, .int .i64 y, .int .i64 z] w fun e w' => e = .returned (.tuple #[.int .i64 0, .int .i64 1]) ∧ w = w' := by
  go_enter Try.func11, Try.ntmps11
  go_wp2
  go_ret2
  exact ⟨rfl, rfl⟩
theorem relation_nil (i : Int) (w : World) : Calls Try.prog 12 #[.pointer none, .int .i64 i] w fun e w' => e = .returned (.tuple #[.int .i64 0, .int .i64 0, .int .i64 0, .int .i64 1]) ∧ w = w' := by
  go_enter Try.func12, Try.ntmps12
  go_wp2
  exact bodyPost_ret (v := .tuple #[.int .i64 0, .int .i64 0, .int .i64 0, .int .i64 1]) (by simp [results, Try.results12, go_sem]) rfl ⟨rfl, rfl⟩
theorem len_nil (w : World) : Calls Try.prog 17 #[.pointer none] w fun e w' => e = .returned (.int .i64 0) ∧ w = w' := by
  go_enter Try.func17, Try.ntmps17
  go_wp2
  go_ret
  exact ⟨rfl, rfl⟩
theorem relations_nil (w : World) : Calls Try.prog 18 #[.pointer none] w fun e w' => e = .returned (.int .i64 0) ∧ w = w' := by
  go_enter Try.func18, Try.ntmps18
  go_wp2
  go_ret
  exact ⟨rfl, rfl⟩

set_option maxRecDepth 100000 in
set_option maxHeartbeats 400000 in
theorem namesNil_walk (s : ByteArray) (a b : Int) (w : World) : Calls Try.prog 7 #[.string s, .int .i64 a, .int .i64 b] w fun e w' => e = .returned (.bool true) ∧ Chg (fun _ => False) w w' := by
  have H := Lib.hid (awake_any w)
  go_enter Try.func7, Try.ntmps7
  go_wp2_with fail
  refine H.out.mono ?_
  rintro e w1 ⟨rfl, h1⟩
  go_wp2_with (first
    | (go_at_call 10; refine (add_nil _ _).mono ?_; rintro e w' ⟨rfl, rfl⟩)
    | (go_at_call 13; refine (find_nil _ _).mono ?_; rintro e w' ⟨rfl, rfl⟩)
    | (go_at_call 14; refine (name_nil _ _).mono ?_; rintro e w' ⟨rfl, rfl⟩)
    | (go_at_call 11; refine (rel_nil _ _ _ _).mono ?_; rintro e w' ⟨rfl, rfl⟩)
    | (go_at_call 12; refine (relation_nil _ _).mono ?_; rintro e w' ⟨rfl, rfl⟩)
    | (go_at_call 17; refine (len_nil _).mono ?_; rintro e w' ⟨rfl, rfl⟩)
    | (go_at_call 18; refine (relations_nil _).mono ?_; rintro e w' ⟨rfl, rfl⟩))
  go_ret
  exact ⟨rfl, h1⟩

theorem co24 : Try.prog.cellsOf 24 = 3 := by kernel_rfl
theorem formed24 (a b c : Value) : (Value.agg #[a, b, c]).formed Try.prog 24 = true := by kernel_rfl
theorem kt24 : Try.prog.keyTypeAt 2 24 = true := by kernel_rfl
theorem keyLits24 {a b c : Int} (ha : (Lit.int .i64 a).wf = true) (hb : (Lit.int .i64 b).wf = true) (hc : (Lit.int .i64 c).wf = true) :
    Try.prog.keyLits (1 + 1) 24 (Value.agg #[.int .i64 a, .int .i64 b, .int .i64 c]).cells.toList = some [.int .i64 a, .int .i64 b, .int .i64 c] := by
  unfold Program.keyLits
  rw [Try.underlying24]
  have r3 : List.range 3 = [0, 1, 2] := rfl
  simp [co3, co24, Value.cells, r3, keyLits3 0 ha, keyLits3 0 hb, keyLits3 0 hc]
theorem arr_eq (w : World) {a b c d e f : Int} (ha : (Lit.int .i64 a).wf = true) (hb : (Lit.int .i64 b).wf = true) (hc : (Lit.int .i64 c).wf = true) (hd : (Lit.int .i64 d).wf = true) (he : (Lit.int .i64 e).wf = true) (hf : (Lit.int .i64 f).wf = true) (r : Bool) (hr : r = true ↔ (a, b, c) = (d, e, f)) :
    (Op.equalIn 10000 24 (.agg #[.int .i64 a, .int .i64 b, .int .i64 c]) (.agg #[.int .i64 d, .int .i64 e, .int .i64 f])).run Try.prog w = .ok r w := by
  obtain ⟨r', h1, h2⟩ := run_equalIn_deep 9998 2 24 kt24 w _ _ _ _ _ _ (formed24 _ _ _) (formed24 _ _ _) (keyLits24 ha hb hc) (keyLits24 hd he hf)
  have e1 : r' = r := by
    rw [Bool.eq_iff_iff, h2, hr]
    simp
  rw [← e1]
  exact h1

theorem cell_chg {S : Nat → Prop} {w w' : World} (h : Chg S w w') {p : Addr} {v : Value} (hn : ¬ S p.block) (hc : w.cell? p = some v) : w'.cell? p = some v :=
  (World.cell?_of_block (w := w) (h.block p.block (World.block_lt_of_cell? w _ hc) hn)).trans hc

theorem nf (k : Nat) : ¬ (fun _ : Nat => False) k := fun h => h

set_option maxRecDepth 100000 in
set_option maxHeartbeats 1000000 in
theorem namesApart_walk (w : World) (a : Option Addr) (cap : Nat) (ss : List ByteArray) (hs : StrsIn w a ss) (hl : ss.length ≤ maxLen) (x0 x1 x2 y0 y1 y2 : Int) (wx0 : (Lit.int .i64 x0).wf = true) (wx1 : (Lit.int .i64 x1).wf = true) (wx2 : (Lit.int .i64 x2).wf = true) (wy0 : (Lit.int .i64 y0).wf = true) (wy1 : (Lit.int .i64 y1).wf = true) (wy2 : (Lit.int .i64 y2).wf = true) :
    Calls Try.prog 4 #[.slice a ss.length cap, .agg #[.int .i64 x0, .int .i64 x1, .int .i64 x2], .agg #[.int .i64 y0, .int .i64 y1, .int .i64 y2]] w fun e w' => e = .returned (.bool true) ∧ Chg (fun _ => False) w w' := by
  have HE := Lib.hid (fun (w : World) (r : Bool) (hr : r = true ↔ (x0, x1, x2) = (y0, y1, y2)) => arr_eq w wx0 wx1 wx2 wy0 wy1 wy2 r hr)
  clear wx0 wx1 wx2 wy0 wy1 wy2
  unfold maxLen at hl
  obtain ⟨hsz, hcells⟩ := hs
  obtain ⟨wb, hwb⟩ : ∃ wb : World, wb = (w.alloc (.cells #[.int .i64 x0, .int .i64 x1, .int .i64 x2] 24)).alloc (.cells #[.int .i64 y0, .int .i64 y1, .int .i64 y2] 24) := ⟨_, rfl⟩
  have hcb : Chg (fun _ => False) w wb := by rw [hwb]; exact ((Chg.refl _ _).alloc _).alloc _
  have bx : wb.heap[w.heap.size]? = some (.cells #[.int .i64 x0, .int .i64 x1, .int .i64 x2] 24 (0, 0)) := by
    rw [hwb, Below.heap_alloc _ _ _ (by simp)]
    exact heap_alloc_new w _
  have by' : wb.heap[w.heap.size + 1]? = some (.cells #[.int .i64 y0, .int .i64 y1, .int .i64 y2] 24 (0, 0)) := by
    rw [hwb]
    have := heap_alloc_new (w.alloc (.cells #[.int .i64 x0, .int .i64 x1, .int .i64 x2] 24)) (.cells #[.int .i64 y0, .int .i64 y1, .int .i64 y2] 24)
    simpa using this
  have HX := Lib.hid bx
  have HY := Lib.hid by'
  have HCB := Lib.hid hcb
  have HWB := Lib.hid hwb
  have HC := Lib.hid hcells
  have HS := Lib.hid hsz
  clear bx by' hcb hwb hcells hsz
  go_enter Try.func4, Try.ntmps4
  go_wp2_with fail
  rw [← HWB.out]
  refine (awake_any _).mono ?_
  rintro e w1 ⟨rfl, h1⟩
  have H1 := Lib.hid h1
  clear h1
  go_wp2_with fail
  refine (new_own H1.out).mono ?_
  rintro e w2 ⟨bt, rfl, h2⟩
  have H2 := Lib.hid h2
  clear h2
  go_wp2_with fail
  go_loopw [9] (fun i wr => ∃ (k : Nat) (t : Tab), k ≤ ss.length ∧ i = .int .i64 k ∧ TabOwn wb bt t wr) (fun i _ => ss.length - (intOf i).toNat)
  case atStart => exact ⟨0, _, Nat.zero_le _, rfl, H2.out⟩
  case round =>
    obtain ⟨k, t, hk, rfl, ht⟩ := hrel
    have HT := Lib.hid ht
    clear ht
    by_cases hkl : k < ss.length
    · have hc : ∃ b off, a = some ⟨b, off, none⟩ ∧ wr.cell? ⟨b, off + k, none⟩ = some (.string ss[k]) := by
        rcases HC.out with h0 | ⟨b, off, ha, hb, hc⟩
        · rw [h0] at hkl; simp at hkl
        · refine ⟨b, off, ha, ?_⟩
          have := hc k hkl
          rw [show ss.getD k ByteArray.empty = ss[k] by simp [List.getD, hkl]] at this
          exact cell_chg HT.out.chg (fun h => h) (cell_chg HCB.out (fun h => h) this)
      obtain ⟨b, off, rfl, hcell⟩ := hc
      have hks : (ss[k]).size ≤ maxLen := HS.out _ (List.getElem_mem hkl)
      go_wp2_with fail
      refine (add_own HT.out ss[k] hks).mono ?_
      rintro e w3 ⟨rfl, h3⟩
      go_wp2
      go_roundw
      case rel => exact ⟨k + 1, _, by omega, by go_num, h3⟩
      case measure => simp [intOf]; omega
    · have e0 := cell_chg HT.out.chg (fun h => h) (cell_of_blk HX.out 0 rfl)
      have e1 := cell_chg HT.out.chg (fun h => h) (cell_of_blk HX.out 1 rfl)
      have e2 := cell_chg HT.out.chg (fun h => h) (cell_of_blk HX.out 2 rfl)
      go_wp2_with fail
      refine (rel_own HT.out x0 x1 x2).mono ?_
      rintro e w3 ⟨rfl, h3⟩
      have HR1 := Lib.hid (fun h => Tab.rel_pos HT.out.ok (x := x0) (op := x1) (y := x2) h)
      have H3 := Lib.hid h3
      clear h3
      have f0 := cell_chg H3.out.chg (fun h => h) (cell_of_blk HY.out 0 rfl)
      have f1 := cell_chg H3.out.chg (fun h => h) (cell_of_blk HY.out 1 rfl)
      have f2 := cell_chg H3.out.chg (fun h => h) (cell_of_blk HY.out 2 rfl)
      go_wp2_with fail
      refine (rel_own H3.out y0 y1 y2).mono ?_
      rintro e w4 ⟨rfl, h4⟩
      have HR2 := Lib.hid (fun h => Tab.rel_pos H3.out.ok (x := y0) (op := y1) (y := y2) h)
      have H4 := Lib.hid h4
      clear h4 e0 e1 e2 f0 f1 f2
      have e0 := cell_chg H4.out.chg (fun h => h) (cell_of_blk HX.out 0 rfl)
      have e1 := cell_chg H4.out.chg (fun h => h) (cell_of_blk HX.out 1 rfl)
      have e2 := cell_chg H4.out.chg (fun h => h) (cell_of_blk HX.out 2 rfl)
      have f0 := cell_chg H4.out.chg (fun h => h) (cell_of_blk HY.out 0 rfl)
      have f1 := cell_chg H4.out.chg (fun h => h) (cell_of_blk HY.out 1 rfl)
      have f2 := cell_chg H4.out.chg (fun h => h) (cell_of_blk HY.out 2 rfl)
      generalize hr1 : t.relRes x0 x1 x2 = r1 at HR1 ⊢
      generalize hr2 : (t.rel x0 x1 x2).relRes y0 y1 y2 = r2 at HR2 ⊢
      clear hr1 hr2
      obtain ⟨c1, er1⟩ := r1
      obtain ⟨c2, er2⟩ := r2
      by_cases he : er1 = 0
      · subst he
        obtain ⟨n1, hn1, hp1⟩ := HR1.out rfl
        simp only at hn1
        subst hn1
        have hp1' := Tab.rel_keeps hp1 y0 y1 y2
        have hrel := Lib.hid (Tab.relation_of_pos hp1')
        by_cases hf : er2 = 0
        · subst hf
          obtain ⟨n2, hn2, hp2⟩ := HR2.out rfl
          simp only at hn2
          subst hn2
          have hiff : Hid (((n1 : Int) = n2) ↔ ((x0, x1, x2) = (y0, y1, y2))) := by
            constructor
            · intro h
              have h : n1 = n2 := by omega
              subst h
              have g1 := pos_get hp1'
              have g2 := pos_get hp2
              rw [g1] at g2
              exact Option.some.inj g2
            · intro h
              rw [h] at hp1'
              rw [hp1'] at hp2
              have := Option.some.inj hp2
              omega
          clear HR1 HR2 hp1 hp1' hp2
          go_wp2_with fail
          refine (relation_own H4.out n1).mono ?_
          rintro e w5 ⟨rfl, h5⟩
          rw [hrel.out]
          have H5 := Lib.hid h5
          clear h5 e0 e1 e2 f0 f1 f2
          have e0 := cell_chg H5.out.chg (fun h => h) (cell_of_blk HX.out 0 rfl)
          have e1 := cell_chg H5.out.chg (fun h => h) (cell_of_blk HX.out 1 rfl)
          have e2 := cell_chg H5.out.chg (fun h => h) (cell_of_blk HX.out 2 rfl)
          have f0 := cell_chg H5.out.chg (fun h => h) (cell_of_blk HY.out 0 rfl)
          have f1 := cell_chg H5.out.chg (fun h => h) (cell_of_blk HY.out 1 rfl)
          have f2 := cell_chg H5.out.chg (fun h => h) (cell_of_blk HY.out 2 rfl)
          by_cases hxy : (x0, x1, x2) = (y0, y1, y2)
          · have hEq := fun w => HE.out w true (by simp [hxy])
            have hn : ((n1 : Int) == (n2 : Int)) = true := by simpa using hiff.out.2 hxy
            clear hiff hxy HE
            go_wp2
            go_ret
            exact ⟨by simp, HCB.out.trans H5.out.chg (fun _ _ h => h)⟩
          · have hEq := fun w => HE.out w false (by simp [hxy])
            have hn : ((n1 : Int) == (n2 : Int)) = false := by
              have : ¬ (n1 : Int) = n2 := fun h => hxy (hiff.out.1 h)
              simpa using this
            clear hiff hxy HE
            go_wp2
            go_ret
            exact ⟨by simp, HCB.out.trans H5.out.chg (fun _ _ h => h)⟩
        · have hf' : ((er2 : Int) != 0) = true := by simpa using hf
          clear HR1 HR2 hp1 hp1' hf
          go_wp2_with fail
          refine (relation_own H4.out n1).mono ?_
          rintro e w5 ⟨rfl, h5⟩
          rw [hrel.out]
          have H5 := Lib.hid h5
          clear h5 e0 e1 e2 f0 f1 f2
          have e0 := cell_chg H5.out.chg (fun h => h) (cell_of_blk HX.out 0 rfl)
          have e1 := cell_chg H5.out.chg (fun h => h) (cell_of_blk HX.out 1 rfl)
          have e2 := cell_chg H5.out.chg (fun h => h) (cell_of_blk HX.out 2 rfl)
          go_wp2
          go_ret
          exact ⟨by simp, HCB.out.trans H5.out.chg (fun _ _ h => h)⟩
      · have he' : ((er1 : Int) != 0) = true := by simpa using he
        have he'' : ((er1 : Int) == 0) = false := by simpa using he
        clear HR1 HR2 he
        go_wp2
        go_ret
        exact ⟨by simp, HCB.out.trans H4.out.chg (fun _ _ h => h)⟩
end Go.Proofs.Ythjhjifihhhphaa
