/-
  The reader of dependencies: the next word. Helper text; the conditions are those typed.
  The reader of dependencies: words taken, tests, comparisons. Helper text; the conditions are those typed.
  The reader of dependencies: a name. Helper text; the conditions are those typed.
-/
import Derived.Test.YtjcefgjgjhdbpaaGreatDoorStrA
import Derived.Test.YtjcefgjgjhdbpaaGreatDoorRowsX
namespace Go.Proofs.YtjcefgjgjhdbpaaGreatDoor
set_option linter.unusedVariables false
set_option linter.unusedSimpArgs false
open Go.RowKit Go.Maps

/-- Of what was there, one block alone may have turned. -/
structure Moves (R : Nat) (w w' : World) : Prop where
  os : w'.os = w.os
  tape : w'.tape = w.tape
  output : w'.output = w.output
  size : w.heap.size ≤ w'.heap.size
  block : ∀ b, b < w.heap.size → b ≠ R → w'.heap[b]? = w.heap[b]?
theorem Moves.refl (R : Nat) (w : World) : Moves R w w := ⟨rfl, rfl, rfl, Nat.le_refl _, fun _ _ _ => rfl⟩
theorem Moves.trans {R : Nat} {w1 w2 w3 : World} (h : Moves R w1 w2) (k : Moves R w2 w3) : Moves R w1 w3 :=
  ⟨k.os.trans h.os, k.tape.trans h.tape, k.output.trans h.output, Nat.le_trans h.size k.size, fun b hb hne => (k.block b (Nat.lt_of_lt_of_le hb h.size) hne).trans (h.block b hb hne)⟩
theorem Moves.of_below {R : Nat} {w w' : World} (h : Below w.heap.size w w') : Moves R w w' := ⟨h.os, h.tape, h.output, h.size, fun b hb _ => h.block b hb⟩
theorem Moves.below {R B : Nat} {w w' : World} (h : Moves R w w') (hB : B ≤ R) (hw : B ≤ w.heap.size) : Below B w w' := ⟨h.os, h.tape, h.output, h.size, fun b hb => h.block b (by omega) (by omega)⟩
theorem Moves.set (R : Nat) (w : World) (o : Nat) (v : Value) : Moves R w (w.setCell ⟨R, o, none⟩ v) := by
  have h := below_sc (Below.refl 0 w) (Nat.zero_le R) o v
  exact ⟨h.os, h.tape, h.output, by rw [set_size]; exact Nat.le_refl _, fun b _ hne => set_other v hne⟩
theorem Moves.drawN (R : Nat) (w : World) (n : Nat) : Moves R w (w.drewN n) := .of_below (below_drewN (Below.refl _ _) n)
/-- The reader stands ahead of these words. -/
def RSt (w : World) (R : Nat) (ws : List Wd) : Prop := ∃ t u : ByteArray, BoxN w R [.string t, .string u] 116 ∧ t.size ≤ maxLen ∧ u.size ≤ maxLen ∧ ((bs u = [] ∧ ws = [] ∧ wordsB (bs t) = []) ∨ (bs u ≠ [] ∧ ws = bs u :: wordsB (bs t)))
theorem RSt.below {w w' : World} {R : Nat} {ws : List Wd} (h : RSt w R ws) (hb : Below w.heap.size w w') : RSt w' R ws := by
  obtain ⟨t, u, h1, h2⟩ := h
  exact ⟨t, u, h1.below hb, h2⟩
theorem RSt.take {w : World} {R : Nat} {ws : List Wd} (h : RSt w R ws) : ∃ t u : ByteArray, BoxN w R [.string t, .string u] 116 ∧ t.size ≤ maxLen ∧ u.size ≤ maxLen ∧ bs u = hd ws ∧ wordsB (bs t) = ws.tail := by
  obtain ⟨t, u, h1, h2, h3, h4 | h4⟩ := h
  · obtain ⟨k1, k2, k3⟩ := h4
    exact ⟨t, u, h1, h2, h3, by rw [k1, k2]; rfl, by rw [k2, k3]; rfl⟩
  · obtain ⟨k1, k2⟩ := h4
    exact ⟨t, u, h1, h2, h3, by rw [k2]; rfl, by rw [k2]; rfl⟩
/-- What the next word leaves. -/
theorem next_st {w : World} {R : Nat} {t : ByteArray} (ht : t.size ≤ maxLen) (h : BoxN w R [.string (mkB ((trimB (bs t)).drop (wordLen (trimB (bs t))))), .string (mkB ((trimB (bs t)).take (wordLen (trimB (bs t)))))] 116) : RSt w R (wordsB (bs t)) := by
  have h1 := trimB_len (bs t)
  rw [bs_length] at h1
  refine ⟨_, _, h, ?_, ?_, ?_⟩
  · rw [← bs_length, bs_mkB, List.length_drop]
    omega
  · rw [← bs_length, bs_mkB, List.length_take]
    omega
  · rw [bs_mkB, bs_mkB]
    cases e : trimB (bs t) with
    | nil =>
      refine .inl ⟨by simp, wordsB_nil e, ?_⟩
      rw [List.drop_nil]
      rfl
    | cons c l =>
      have h2 := wordLen_pos (l := l) (trimB_head _ _ _ e)
      refine .inr ⟨fun e2 => ?_, wordsB_cons e⟩
      have := congrArg List.length e2
      rw [List.length_take, List.length_cons, List.length_nil] at this
      omega

/-- A scope with one label: what holds at the label, a measure, the way from the label walked once. -/
theorem wp_scope_share {P : Program} {a : Act} {w : World} {Q : Exit → Act → World → Prop} {c B : Code} (l : Nat) (J : Act → World → Prop) (μ : Act → World → Nat) (hf : findLabel c l = some (.seq .skip B))
    (pass : ∀ a w, J a w → B.wp P (Exit.jump l (fun a' w' => J a' w' ∧ μ a' w' < μ a w) Q) a w)
    (first : (∀ a w, J a w → B.wp P (Exit.jump l J Q) a w) → c.wp P (Exit.jump l J Q) a w) : (Code.scope c).wp P Q a w := by
  have hm : ∀ a w, J a w → B.wp P (Exit.jump l J Q) a w := fun a w hj => Code.wp_mono (fun e a' w' h => by
    cases e with
    | goto l' => exact ⟨h.1, h.2.1⟩
    | normal => exact h
    | exit id => exact h
    | ret => exact h
    | panic ch => exact h
    | outgrown => exact h) (pass a w hj)
  exact wp_scope_jumps l J μ hf (first hm) fun a w hj => wp_seq (wp_skip (pass a w hj))

theorem arr76 (t : Array Value) (h : t.size = 76) : ∃ f : Nat → Value, t = #[f 0, f 1, f 2, f 3, f 4, f 5, f 6, f 7, f 8, f 9, f 10, f 11, f 12, f 13, f 14, f 15, f 16, f 17, f 18, f 19, f 20, f 21, f 22, f 23, f 24, f 25, f 26, f 27, f 28, f 29, f 30, f 31, f 32, f 33, f 34, f 35, f 36, f 37, f 38, f 39, f 40, f 41, f 42, f 43, f 44, f 45, f 46, f 47, f 48, f 49, f 50, f 51, f 52, f 53, f 54, f 55, f 56, f 57, f 58, f 59, f 60, f 61, f 62, f 63, f 64, f 65, f 66, f 67, f 68, f 69, f 70, f 71, f 72, f 73, f 74, f 75] := by
  have h1 : t = ((List.range 76).map fun i => t.getD i undef).toArray := by
    apply Array.ext
    · simp [h]
    · intro i h1 h2
      simp [h1]
  exact ⟨fun i => t.getD i undef, h1⟩
def NxJ (R : Nat) (n : Nat) (w : World) (t1 u : ByteArray) (x : Act) (W : World) : Prop := x.defers = [] ∧ x.tmps.size = 76 ∧ x.tmps[0]? = some (.pointer (some ⟨R, 0, none⟩)) ∧ x.tmps[2]? = some (.int .i64 (n : Int)) ∧ Moves R w W ∧ BoxN W R [.string t1, .string u] 116
set_option maxHeartbeats 4000000 in
set_option maxRecDepth 100000 in
/-- next. -/
theorem next_c (w : World) (R : Nat) (t u : ByteArray) (ht : t.size ≤ maxLen) (h : BoxN w R [.string t, .string u] 116) : Calls Tryz.prog 89 #[.pointer (some ⟨R, 0, none⟩)] w fun e w' => e = .returned (.tuple #[]) ∧ RSt w' R (wordsB (bs t)) ∧ Moves R w w' := by
  have c0 := h.cell (j := 0) rfl
  have f0 : w.frozen? ⟨R, 0, none⟩ = false := frozen_of h
  have HT := Lib.hid (trimL_c t w)
  obtain ⟨t1, ht1⟩ : ∃ t1, mkB (trimB (bs t)) = t1 := ⟨_, rfl⟩
  rw [ht1] at HT
  have hb1 : bs t1 = trimB (bs t) := by rw [← ht1]; rfl
  have hsz1 : t1.size ≤ maxLen := by
    rw [← bs_length, hb1]
    have := trimB_len (bs t)
    rw [bs_length] at this
    omega
  have HFIN : Hid (∀ W : World, Moves R w W → BoxN W R [.string (t1.extract (wordLen (bs t1)) t1.size), .string (t1.extract 0 (wordLen (bs t1)))] 116 → RSt W R (wordsB (bs t)) ∧ Moves R w W) := Lib.hid fun W hm hb => by
    refine ⟨next_st ht ?_, hm⟩
    rw [← mkB_drop, ← mkB_take, hb1] at hb
    exact hb
  have hwl : wordLen (bs t1) ≤ t1.size := by
    rw [← bs_length]
    exact wordLen_le _
  have HB1 : Hid (Moves R w (w.setCell ⟨R, 0, none⟩ (.string t1)) ∧ BoxN (w.setCell ⟨R, 0, none⟩ (.string t1)) R [.string t1, .string u] 116) := Lib.hid ⟨Moves.set R w 0 _, h.set 0 (.string t1)⟩
  obtain ⟨n1, hn1⟩ : ∃ n, wordLen (bs t1) = n := ⟨_, rfl⟩
  rw [hn1] at HFIN hwl
  have HN1 := Lib.hid hn1
  unfold maxLen at hsz1
  clear h ht hb1 ht1 hn1
  go_enter Tryz.func89, Tryz.ntmps89
  go_upto_region 2 with (go_at_call 128; refine HT.out.mono ?_; rintro e w' ⟨rfl, rfl⟩)
  refine wp_scope_share 0 (NxJ R n1 w t1 u) (fun _ _ => 0) rfl ?_ ?_
  · rintro x W ⟨hdef, hsz, h0, h2, hm, hb⟩
    obtain ⟨tm, d⟩ := x
    simp only at hdef hsz h0 h2
    subst hdef
    obtain ⟨f, rfl⟩ := arr76 tm hsz
    have e0 : f 0 = .pointer (some ⟨R, 0, none⟩) := by simpa using h0
    have e2 : f 2 = .int .i64 (n1 : Int) := by simpa using h2
    rw [e0, e2]
    clear e0 e2 h0 h2 hsz
    have HM := Lib.hid hm
    have HBX := Lib.hid hb
    clear hm hb
    have i0 : (0 : Int) ≤ (n1 : Int) := by omega
    have i1 : (n1 : Int) ≤ (t1.size : Int) := by omega
    have p0 := HBX.out.cell (j := 0) rfl
    have p1 := HBX.out.cell (j := 1) rfl
    have g0 : W.frozen? ⟨R, 0, none⟩ = false := frozen_of HBX.out
    have g1 : W.frozen? ⟨R, 1, none⟩ = false := frozen_of HBX.out
    go_upto_region 12 with fail
    go_region
    all_goals
      go_wp2_with fail
      simp only [Exit.jump]
      go_end0
      refine ⟨rfl, HFIN.out _ ?_ ?_⟩
      · exact ((HM.out.trans (.of_below (below_dr1 (Below.refl _ _)))).trans (Moves.set R _ _ _)).trans (Moves.set R _ _ _)
      · exact ((HBX.out.below (below_dr1 (Below.refl _ _))).set 1 _).set 0 _
  · intro hj
    have HJ := Lib.hid hj
    clear hj
    go_upto_region 2 with (go_at_call 128; refine HT.out.mono ?_; rintro e w' ⟨rfl, rfl⟩)
    obtain ⟨w1, e1⟩ : ∃ w1, w'.setCell ⟨R, 0, none⟩ (.string t1) = w1 := ⟨_, rfl⟩
    rw [e1] at HB1 ⊢
    clear e1 c0 f0 HT
    have p0 := HB1.out.2.cell (j := 0) rfl
    have HA := Lib.hid (begins_c t1 40 w1)
    have HC := Lib.hid (begins_c t1 41 w1)
    have hways : (((bs t1).head? == some 40) = true ∧ Hid (n1 = 1)) ∨ (((bs t1).head? == some 40) = false ∧ ((bs t1).head? == some 41) = true ∧ Hid (n1 = 1)) ∨ (((bs t1).head? == some 40) = false ∧ ((bs t1).head? == some 41) = false ∧ Hid (n1 = scanW 0 (bs t1))) := by
      have h1 := HN1.out
      cases e : bs t1 with
      | nil =>
        rw [e] at h1
        exact .inr (.inr ⟨rfl, rfl, h1.symm⟩)
      | cons c l =>
        rw [e, wordLen_cons] at h1
        by_cases hc : c = 40
        · rw [if_pos (.inl hc)] at h1
          exact .inl ⟨by simp [hc], h1.symm⟩
        · by_cases hd : c = 41
          · rw [if_pos (.inr hd)] at h1
            exact .inr (.inl ⟨by simp [hc], by simp [hd], h1.symm⟩)
          · rw [if_neg (by simp [hc, hd])] at h1
            exact .inr (.inr ⟨by simp [hc], by simp [hd], h1.symm⟩)
    rcases hways with ⟨h1, HN⟩ | ⟨h1, h2, HN⟩ | ⟨h1, h2, HN⟩
    · rw [h1] at HA
      clear h1
      go_wp2_with fail
      refine HA.out.mono ?_
      rintro e w2 ⟨rfl, hw⟩
      subst hw
      go_wp2_with fail
      refine wp_goto ?_
      dsimp only [Exit.jump, Exit.noGoto, Exit.inBlock, Exit.then]
      exact ⟨rfl, rfl, rfl, rfl, by rw [HN.out]; rfl, HB1.out⟩
    · rw [h1] at HA
      rw [h2] at HC
      clear h1 h2
      go_wp2_with fail
      refine HA.out.mono ?_
      rintro e w2 ⟨rfl, hw⟩
      subst hw
      go_wp2_with fail
      refine HC.out.mono ?_
      rintro e w2 ⟨rfl, hw⟩
      subst hw
      go_wp2_with fail
      refine wp_goto ?_
      dsimp only [Exit.jump, Exit.noGoto, Exit.inBlock, Exit.then]
      exact ⟨rfl, rfl, rfl, rfl, by rw [HN.out]; rfl, HB1.out⟩
    · rw [h1] at HA
      rw [h2] at HC
      clear h1 h2
      go_wp2_with fail
      refine HA.out.mono ?_
      rintro e w2 ⟨rfl, hw⟩
      subst hw
      go_wp2_with fail
      refine HC.out.mono ?_
      rintro e w2 ⟨rfl, hw⟩
      subst hw
      go_wp2_with fail
      clear HA HC
      go_loopw [2, 3] (fun vn vo wr => ∃ n o : Nat, vn = .int .i64 (n : Int) ∧ vo = .int .i64 (o : Int) ∧ n ≤ t1.size ∧ o ≤ n ∧ w2 = wr ∧ Hid (n1 = n + scanW o ((bs t1).drop n))) (fun vn _ _ => t1.size - (intOf vn).toNat)
      case atStart => exact ⟨0, 0, rfl, rfl, Nat.zero_le _, Nat.le_refl _, rfl, by rw [List.drop_zero, Nat.zero_add]; exact HN.out⟩
      case round =>
        clear HN
        obtain ⟨n, o, rfl, rfl, hn, ho, rfl, HK⟩ := hrel
        by_cases hlt : n < t1.size
        · have hi1 : (n : Int) < (t1.size : Int) := by omega
          have hdrop : (bs t1).drop n = t1[n] :: (bs t1).drop (n + 1) := by
            have h3 : n < (bs t1).length := by rw [bs_length]; exact hlt
            exact List.drop_eq_getElem_cons h3
          have HK2 : Hid (n1 = n + if t1[n] = 32 then 0 else if t1[n] = 41 ∧ o = 0 then 0 else 1 + scanW (if t1[n] = 40 then o + 1 else if t1[n] = 41 then o - 1 else o) ((bs t1).drop (n + 1))) := Lib.hid (by
            have h3 := HK.out
            rw [hdrop, scanW_cons] at h3
            exact h3)
          clear hdrop HK
          by_cases c32 : t1[n] = 32
          · have hB : ((t1[n].toNat : Int) == 32) = true := by rw [c32]; rfl
            have HE : Hid (n = n1) := Lib.hid (by
              have h3 := HK2.out
              rw [if_pos c32] at h3
              omega)
            clear c32
            go_wp2_with fail
            refine wp_label ?_
            dsimp only [Exit.then]
            rename_i hKK
            refine hKK _ _ (HJ.out _ _ ?_)
            exact ⟨rfl, rfl, rfl, by rw [← HE.out]; rfl, HB1.out⟩
          · have hB : ((t1[n].toNat : Int) == 32) = false := u8b c32
            by_cases c40 : t1[n] = 40
            · have hC : ((t1[n].toNat : Int) == 40) = true := by rw [c40]; rfl
              have HE : Hid (n1 = (n + 1) + scanW (o + 1) ((bs t1).drop (n + 1))) := Lib.hid (by
                have h3 := HK2.out
                rw [if_neg c32, if_neg (by rw [c40]; simp), if_pos c40] at h3
                omega)
              clear c32 c40 HK2
              go_wp2_with fail
              go_roundw
              case rel => exact ⟨n + 1, o + 1, by go_num, by go_num, by omega, by omega, trivial, HE.out⟩
              case measure => simp [intOf]; omega
            · have hC : ((t1[n].toNat : Int) == 40) = false := u8b c40
              by_cases c41 : t1[n] = 41
              · have hD : ((t1[n].toNat : Int) == 41) = true := by rw [c41]; rfl
                by_cases ho0 : o = 0
                · have ho1 : ((o : Int) == 0) = true := by rw [ho0]; rfl
                  have HE : Hid (n = n1) := Lib.hid (by
                    have h3 := HK2.out
                    rw [if_neg c32, if_pos ⟨c41, ho0⟩] at h3
                    omega)
                  clear c32 c40 c41 HK2 ho0
                  go_wp2_with fail
                  refine wp_goto ?_
                  dsimp only [Exit.jump, Exit.noGoto, Exit.inBlock, Exit.then]
                  exact ⟨rfl, rfl, rfl, rfl, by rw [← HE.out]; rfl, HB1.out⟩
                · have ho1 : ((o : Int) == 0) = false := beq_eq_false_iff_ne.2 (by omega)
                  have HE : Hid (n1 = (n + 1) + scanW (o - 1) ((bs t1).drop (n + 1))) := Lib.hid (by
                    have h3 := HK2.out
                    rw [if_neg c32, if_neg (fun h => ho0 h.2), if_neg c40, if_pos c41] at h3
                    omega)
                  have hop : 1 ≤ o := by omega
                  clear c32 c40 c41 HK2 ho0
                  go_wp2_with fail
                  go_roundw
                  case rel => exact ⟨n + 1, o - 1, by go_num, by go_num, by omega, by omega, trivial, HE.out⟩
                  case measure => simp [intOf]; omega
              · have hD : ((t1[n].toNat : Int) == 41) = false := u8b c41
                have HE : Hid (n1 = (n + 1) + scanW o ((bs t1).drop (n + 1))) := Lib.hid (by
                  have h3 := HK2.out
                  rw [if_neg c32, if_neg (fun h => c41 h.1), if_neg c40, if_neg c41] at h3
                  omega)
                clear c32 c40 c41 HK2
                go_wp2_with fail
                go_roundw
                case rel => exact ⟨n + 1, o, by go_num, rfl, by omega, by omega, trivial, HE.out⟩
                case measure => simp [intOf]; omega
        · have hi1 : ¬ (n : Int) < (t1.size : Int) := by omega
          have HE : Hid (n = n1) := Lib.hid (by
            have h3 := HK.out
            rw [List.drop_eq_nil_of_le (by rw [bs_length]; omega)] at h3
            have : scanW o [] = 0 := rfl
            omega)
          go_wp2_with fail
          refine wp_label ?_
          dsimp only [Exit.then]
          rename_i hKK
          refine hKK _ _ (HJ.out _ _ ?_)
          exact ⟨rfl, rfl, rfl, by rw [← HE.out]; rfl, HB1.out⟩
end Go.Proofs.YtjcefgjgjhdbpaaGreatDoor
namespace Go.Proofs.YtjcefgjgjhdbpaaGreatDoor
set_option linter.unusedVariables false
set_option linter.unusedSimpArgs false
open Go.RowKit Go.Maps

theorem DepRow.step2 {w wa w9 : World} {L : Nat} {vo : Value} {i n : Nat} {args args' : Fin n → DepT} {xs cs : List Value} (h : DepRow w L vo i n args xs) (hL : L ≤ w.heap.size) (hsz : w.heap.size ≤ wa.heap.size) (hbk : ∀ b, L ≤ b → b < w.heap.size → wa.heap[b]? = w.heap[b]?) (hi : i < n) (hv : DepC wa (New w.heap.size wa) (args' ⟨i, hi⟩) cs) (hag : ∀ j : Fin n, j.val < i → args' j = args j) {g cap : Nat}
    (hown : w9.ownsRow L 73 5 (.slice (some ⟨g, 0, none⟩) (i + 1) cap) (i + 1) (xs ++ cs)) (hgrow : wa.grownBy w9 vo.ownBlock) (hat : vo.ownBlock = some g ∨ g = wa.heap.size) : DepRow w9 L (.slice (some ⟨g, 0, none⟩) (i + 1) cap) (i + 1) n args' (xs ++ cs) := by
  have hxl : xs.length = i * 5 := h.row.1
  refine ⟨hown, fun j hj => ?_⟩
  have hgb : ∀ b, (Value.slice (some ⟨g, 0, none⟩) (i + 1) cap).ownBlock ≠ some b ↔ b ≠ g := fun b => by
    show some g ≠ some b ↔ b ≠ g
    constructor
    · intro h e; exact h (by rw [e])
    · intro h e; exact h (Option.some.inj e).symm
  by_cases e : j.val = i
  · obtain rfl : j = ⟨i, hi⟩ := Fin.ext e
    have hne : ∀ b, New w.heap.size wa b → vo.ownBlock ≠ some b ∧ b ≠ g := fun b hb' => by
      refine ⟨fun e => ?_, fun e => ?_⟩
      · have := (h.row.lt b e).2
        have := hb'.1
        omega
      · subst e
        rcases hat with h1 | h1
        · have := (h.row.lt b h1).2
          have := hb'.1
          omega
        · have := hb'.2.lt
          omega
    refine ⟨cs, hv.keep (fun b hb' => ⟨⟨by have := hb'.1; omega, hb'.2.keep (hgrow.block b hb'.2.lt (fun e => (hne b hb').1 e.symm))⟩, (hgb b).2 (hne b hb').2⟩) (fun b hb' hl => hgrow.block b hl (fun e => (hne b hb').1 e.symm)) (fun _ _ => trivial), fun r u hr => ?_⟩
    rw [List.getElem?_append_right (by simp only; omega), hxl]
    simp only
    rw [show i * 5 + r - i * 5 = r by omega]
    exact hr
  · obtain ⟨c2, h1, h2⟩ := h.has j (by omega)
    have hk : ∀ b, New L w b ∧ vo.ownBlock ≠ some b → w9.heap[b]? = w.heap[b]? := fun b hb' =>
      (hgrow.block b (Nat.lt_of_lt_of_le hb'.1.2.lt hsz) (fun e => hb'.2 e.symm)).trans (hbk b hb'.1.1 hb'.1.2.lt)
    have hng : ∀ b, New L w b ∧ vo.ownBlock ≠ some b → b ≠ g := fun b hb' e => by
      subst e
      rcases hat with h1 | h1
      · exact hb'.2 h1
      · have := hb'.1.2.lt
        omega
    rw [hag j (by omega)]
    refine ⟨c2, h1.keep (fun b hb' => ⟨⟨hb'.1.1, hb'.1.2.keep (hk b hb')⟩, (hgb b).2 (hng b hb')⟩) (fun b hb' _ => hk b hb') (fun _ _ => trivial), fun r u hr => ?_⟩
    have hr5 : r < 5 := by
      have := (List.getElem?_eq_some_iff.1 hr).1
      rwa [h1.len] at this
    rw [List.getElem?_append_left (by omega)]
    exact h2 r u hr

/-- What reading gives up with. -/
def oddD : List PanicEntry := [{ v := .iface 112 (.agg #[]), recovered := false }]
set_option maxRecDepth 100000 in
theorem need_yes (w : World) : Calls Tryz.prog 91 #[.bool true] w fun e w' => e = .returned (.tuple #[]) ∧ w = w' := by
  go_enter Tryz.func91, Tryz.ntmps91
  go_wp2_with fail
  go_end0
  exact ⟨rfl, rfl⟩
set_option maxRecDepth 100000 in
theorem need_no (w : World) : Calls Tryz.prog 91 #[.bool false] w fun e w' => e = .panicked oddD ∧ w = w' := by
  go_enter Tryz.func91, Tryz.ntmps91
  go_wp2_with fail
  exact ⟨rfl, rfl, rfl⟩
theorem next_r {w : World} {R : Nat} {ws : List Wd} (h : RSt w R ws) : Calls Tryz.prog 89 #[.pointer (some ⟨R, 0, none⟩)] w fun e w' => e = .returned (.tuple #[]) ∧ RSt w' R ws.tail ∧ Moves R w w' := by
  obtain ⟨t, u, h1, h2, h3, h4, h5⟩ := h.take
  rw [← h5]
  exact next_c w R t u h2 h1
/-- The word that stands next. -/
theorem RSt.word {w : World} {R : Nat} {ws : List Wd} (h : RSt w R ws) : ∃ t u : ByteArray, BoxN w R [.string t, .string u] 116 ∧ bs u = hd ws ∧ u.size ≤ maxLen := by
  obtain ⟨t, u, h1, h2, h3, h4, h5⟩ := h.take
  exact ⟨t, u, h1, h4, h3⟩
theorem mkB_of {u : ByteArray} {x : Wd} (h : bs u = x) : u = mkB x := by rw [← h]; rfl
set_option maxHeartbeats 1000000 in
set_option maxRecDepth 100000 in
/-- take. -/
theorem take_c {w : World} {R : Nat} {ws : List Wd} (h : RSt w R ws) : Calls Tryz.prog 129 #[.pointer (some ⟨R, 0, none⟩)] w fun e w' => e = .returned (.string (mkB (hd ws))) ∧ RSt w' R ws.tail ∧ Moves R w w' := by
  have HN := Lib.hid (next_r h)
  obtain ⟨t, u, hb, hu, _⟩ := h.word
  have hu2 := mkB_of hu
  rw [← hu2]
  have c1 := hb.cell (j := 1) rfl
  clear h hb hu hu2
  go_enter Tryz.func129, Tryz.ntmps129
  go_wp2_with fail
  refine HN.out.mono ?_
  rintro e w' ⟨rfl, h1, h2⟩
  have H := Lib.hid (And.intro h1 h2)
  clear h1 h2
  go_wp2_with fail
  go_ret
  exact ⟨rfl, H.out⟩
theorem lit_eq (a : Array UInt8) (u : Wd) : ((⟨a⟩ : ByteArray) = mkB u) = (a.toList = u) := by
  refine propext ⟨fun h => ?_, fun h => ?_⟩
  · have := congrArg bs h
    exact this
  · subst h
    rfl
/-- signs(), then slices.Index. -/
theorem idxS_c (zs : List ByteArray) (x : ByteArray) (w : World) (n : Nat) (hn : zs.length = n) (hb : n ≤ 100) :
    Calls Tryz.prog 130 #[.slice (some ⟨w.heap.size, 0, none⟩) n n, .string x] (w.alloc (.cells (zs.map Value.string).toArray 9)) fun e w' => e = .returned (.int .i64 (Lib.idxOfS zs x)) ∧ w' = w.alloc (.cells (zs.map Value.string).toArray 9) := by
  have hc : ∀ j, j < zs.length → (w.alloc (.cells (zs.map Value.string).toArray 9)).cell? ⟨w.heap.size, 0 + j, none⟩ = some (.string (zs.getD j ByteArray.empty)) := by
    intro j hj
    have := cell_list w (zs.map Value.string) 9 j (by simpa using hj)
    rw [Nat.zero_add, this]
    simp [List.getD, hj]
  subst hn
  exact (Any.slices_Index_string Tryz.layIndexS w.heap.size 0 zs.length zs.length zs x _ (Nat.le_refl _) (by omega) hc).mono fun e w' ⟨h1, h2⟩ => ⟨by rw [h1, List.take_length], h2⟩
theorem op_idx (u : Wd) : (opOf u = 0 ∧ Lib.idxOfS signsL (mkB u) ≤ 0) ∨ (opOf u ≠ 0 ∧ Lib.idxOfS signsL (mkB u) = (opOf u : Int) ∧ opOf u ≤ 7) := by
  have e : Lib.idxOfS signsL (mkB u) = if [] = u then 0 else if [60] = u then 1 else if [61] = u then 2 else if [60, 61] = u then 3 else if [62] = u then 4 else if [60, 62] = u then 5 else if [62, 61] = u then 6 else if [60, 61, 62] = u then 7 else -1 := by
    simp only [Lib.idxOfS, signsL, Lib.idxFromS, lit_eq]
    rfl
  rw [e]
  unfold opOf
  by_cases h0 : u = []
  · subst h0
    exact .inl ⟨by decide, by decide⟩
  by_cases h1 : u = [60]
  · subst h1
    exact .inr ⟨by decide, by decide, by decide⟩
  by_cases h2 : u = [61]
  · subst h2
    exact .inr ⟨by decide, by decide, by decide⟩
  by_cases h3 : u = [60, 61]
  · subst h3
    exact .inr ⟨by decide, by decide, by decide⟩
  by_cases h4 : u = [62]
  · subst h4
    exact .inr ⟨by decide, by decide, by decide⟩
  by_cases h5 : u = [60, 62]
  · subst h5
    exact .inr ⟨by decide, by decide, by decide⟩
  by_cases h6 : u = [62, 61]
  · subst h6
    exact .inr ⟨by decide, by decide, by decide⟩
  by_cases h7 : u = [60, 61, 62]
  · subst h7
    exact .inr ⟨by decide, by decide, by decide⟩
  rw [if_neg (Ne.symm h0), if_neg (Ne.symm h1), if_neg (Ne.symm h2), if_neg (Ne.symm h3), if_neg (Ne.symm h4), if_neg (Ne.symm h5), if_neg (Ne.symm h6), if_neg (Ne.symm h7), if_neg h1, if_neg h2, if_neg h3, if_neg h4, if_neg h5, if_neg h6, if_neg h7]
  exact .inl ⟨rfl, by decide⟩
theorem kind_idx {u : Wd} (hu : u ≠ []) : (kindOf u = 0 ∧ Lib.idxOfS wordsL (mkB u) ≤ 0) ∨ (kindOf u ≠ 0 ∧ Lib.idxOfS wordsL (mkB u) = (kindOf u : Int) ∧ kindOf u ≤ 6) := by
  have e : Lib.idxOfS wordsL (mkB u) = if [] = u then 0 else if [] = u then 1 else if andW = u then 2 else if orW = u then 3 else if ifW = u then 4 else if withW = u then 5 else if woW = u then 6 else -1 := by
    simp only [Lib.idxOfS, wordsL, Lib.idxFromS, lit_eq]
    rfl
  rw [e, if_neg (Ne.symm hu), if_neg (Ne.symm hu)]
  unfold kindOf
  by_cases h1 : u = andW
  · subst h1
    exact .inr ⟨by decide, by decide, by decide⟩
  by_cases h2 : u = orW
  · subst h2
    exact .inr ⟨by decide, by decide, by decide⟩
  by_cases h3 : u = ifW
  · subst h3
    exact .inr ⟨by decide, by decide, by decide⟩
  by_cases h4 : u = withW
  · subst h4
    exact .inr ⟨by decide, by decide, by decide⟩
  by_cases h5 : u = woW
  · subst h5
    exact .inr ⟨by decide, by decide, by decide⟩
  rw [if_neg (Ne.symm h1), if_neg (Ne.symm h2), if_neg (Ne.symm h3), if_neg (Ne.symm h4), if_neg (Ne.symm h5), if_neg h1, if_neg h2, if_neg h3, if_neg h4, if_neg h5]
  exact .inl ⟨rfl, by decide⟩
end Go.Proofs.YtjcefgjgjhdbpaaGreatDoor
namespace Go.Proofs.YtjcefgjgjhdbpaaGreatDoor
set_option linter.unusedVariables false
set_option linter.unusedSimpArgs false
open Go.RowKit Go.Maps

/-- What reading a dependency leaves: it, or it gave up. -/
def OneP (R : Nat) (w : World) (o : Option (DepT × List Wd)) (e : Ending) (w' : World) : Prop :=
  match o with
  | some (d, r) => (∃ k nm op ev a n c, e = .returned (.agg #[.int .i64 k, .string nm, .int .i64 op, .string ev, .slice a n c]) ∧ DepC w' (New w.heap.size w') d [.int .i64 k, .string nm, .int .i64 op, .string ev, .slice a n c]) ∧ RSt w' R r ∧ Moves R w w'
  | none => e = .panicked oddD ∧ Moves R w w'
theorem leaf_v (w : World) (S : Nat → Prop) {u : ByteArray} {x : Wd} (hu : bs u = x) (hs : u.size ≤ maxLen) (op : Nat) {v : ByteArray} {y : Wd} (hv : bs v = y) (hvs : v.size ≤ maxLen) : DepC w S (leafT x op y) [.int .i64 1, .string u, .int .i64 (op : Int), .string v, .slice none 0 0] := by
  have e1 := mkB_of hu
  have e2 := mkB_of hv
  subst e1 e2
  exact ⟨none, 0, rfl, by decide, hs, hvs, by decide, fun h => absurd rfl h⟩
theorem RSt.moves {w w' : World} {R : Nat} {ws : List Wd} (h : RSt w R ws) (hR : w'.heap[R]? = w.heap[R]?) : RSt w' R ws := by
  obtain ⟨t, u, h1, h2⟩ := h
  exact ⟨t, u, h1.to hR, h2⟩
/-- A block made since may turn, too. -/
theorem Moves.leave {R D : Nat} {w w1 w2 : World} (h : Moves R w w1) (k : Moves D w1 w2) (hD : w.heap.size ≤ D) : Moves R w w2 :=
  ⟨k.os.trans h.os, k.tape.trans h.tape, k.output.trans h.output, Nat.le_trans h.size k.size, fun b hb hne => (k.block b (Nat.lt_of_lt_of_le hb h.size) (by omega)).trans (h.block b hb hne)⟩
set_option maxHeartbeats 4000000 in
set_option maxRecDepth 100000 in
theorem one_leaf {w : World} {R : Nat} {ws : List Wd} (h : RSt w R ws) (h40 : hd ws ≠ [40]) : Calls Tryz.prog 90 #[.pointer (some ⟨R, 0, none⟩)] w (OneP R w (rdLeaf ws)) := by
  obtain ⟨w0, e0⟩ : ∃ w0, w.alloc (.cells #[.int .i64 0, .string ⟨#[]⟩, .int .i64 0, .string ⟨#[]⟩, .slice none 0 0] 73) = w0 := ⟨_, rfl⟩
  have HB0 : Hid (Below w.heap.size w w0 ∧ BoxN w0 w.heap.size [.int .i64 0, .string ⟨#[]⟩, .int .i64 0, .string ⟨#[]⟩, .slice none 0 0] 73) := by
    rw [← e0]
    exact ⟨below1 _ _, boxN_alloc _ _ _⟩
  obtain ⟨t, u, hb, hu, husz⟩ := h.word
  have HRlt : Hid (R < w.heap.size) := Lib.hid hb.lt
  have HT := Lib.hid (take_c (h.below HB0.out.1))
  have hu2 := mkB_of hu
  rw [← hu2] at HT
  have hz : (u.toList == [40]) = false := by
    rw [bs_toList, hu]
    simpa using h40
  have HU := Lib.hid (And.intro hu husz)
  obtain ⟨POST, hPOST⟩ : ∃ P, OneP R w (rdLeaf ws) = P := ⟨_, rfl⟩
  rw [hPOST]
  have HNO : Hid (nameB u = false → ∀ w', Moves R w w' → POST (.panicked oddD) w') := Lib.hid fun hn w' hm => by
    rw [← hPOST]
    unfold rdLeaf
    rw [if_pos (by rw [← hu2]; exact hn)]
    exact ⟨rfl, hm⟩
  have HY0 : Hid (nameB u = true → opOf (hd ws.tail) = 0 → ∀ w', RSt w' R ws.tail → Moves R w w' → POST (.returned (.agg #[.int .i64 1, .string u, .int .i64 0, .string ⟨#[]⟩, .slice none 0 0])) w') := Lib.hid fun hn ho w' hr hm => by
    rw [← hPOST]
    unfold rdLeaf
    rw [if_neg (by rw [← hu2, hn]; simp), if_pos ho]
    exact ⟨⟨_, _, _, _, _, _, _, rfl, leaf_v _ _ hu husz 0 (v := ⟨#[]⟩) rfl (by decide)⟩, hr, hm⟩
  have HY1 : Hid (nameB u = true → opOf (hd ws.tail) ≠ 0 → ∀ w' (v : ByteArray), bs v = hd ws.tail.tail → v.size ≤ maxLen → RSt w' R ws.tail.tail.tail → Moves R w w' → POST (.returned (.agg #[.int .i64 1, .string u, .int .i64 (opOf (hd ws.tail) : Int), .string v, .slice none 0 0])) w') := Lib.hid fun hn ho w' v hv hvs hr hm => by
    rw [← hPOST]
    unfold rdLeaf
    rw [if_neg (by rw [← hu2, hn]; simp), if_neg ho]
    exact ⟨⟨_, _, _, _, _, _, _, rfl, leaf_v _ _ hu husz _ hv hvs⟩, hr, hm⟩
  clear hPOST h hb hu hu2 husz h40
  go_enter Tryz.func90, Tryz.ntmps90
  go_wp2_with fail
  refine HT.out.mono ?_
  rintro e w1 ⟨rfl, h1, h2⟩
  have HR1 := Lib.hid h1
  have HM1 := Lib.hid h2
  clear h1 h2 HT
  have HN := Lib.hid (name_c u w1)
  obtain ⟨nb, hnb⟩ : ∃ b, nameB u = b := ⟨_, rfl⟩
  rw [hnb] at HN HNO HY0 HY1
  clear hnb
  go_wp2_with fail
  refine HN.out.mono ?_
  rintro e w2 ⟨rfl, hb2⟩
  have HB2 := Lib.hid hb2
  clear hb2 HN
  have HM2 : Hid (Moves R w0 w2) := Lib.hid (HM1.out.trans (.of_below HB2.out))
  have HM0 : Hid (Moves R w w2) := Lib.hid ((Moves.of_below HB0.out.1).trans HM2.out)
  have HR2 := Lib.hid (HR1.out.below HB2.out)
  cases nb with
  | false =>
    go_wp2_with fail
    refine (need_no w2).mono ?_
    rintro e w3 ⟨rfl, hw⟩
    subst hw
    exact ⟨rfl, HNO.out (by first | rfl | trivial) _ HM0.out⟩
  | true =>
    clear HNO
    go_wp2_with fail
    refine (need_yes w2).mono ?_
    rintro e w3 ⟨rfl, hw⟩
    subst hw
    clear HR1 HM1 HB2
    go_upto_region 5 with fail
    obtain ⟨w4, e4⟩ : ∃ w4, w2.alloc (.cells #[.int .i64 1, .string u, .int .i64 0, .string ⟨#[]⟩, .slice none 0 0] 73) = w4 := ⟨_, rfl⟩
    have HB4 : Hid (Below w2.heap.size w2 w4 ∧ BoxN w4 w2.heap.size [.int .i64 1, .string u, .int .i64 0, .string ⟨#[]⟩, .slice none 0 0] 73) := by
      rw [← e4]
      exact ⟨below1 _ _, boxN_alloc _ _ _⟩
    rw [e4]
    obtain ⟨t1, u1, hb1, hu1, hs1⟩ := (HR2.out.below HB4.out.1).word
    have hu12 := mkB_of hu1
    have HX : Hid (∀ W : World, W.heap[R]? = w4.heap[R]? → W.cell? ⟨R, 1, none⟩ = some (.string u1)) := Lib.hid fun W hW => (hb1.to hW).cell (j := 1) rfl
    have HR4 : Hid (R < w4.heap.size) := Lib.hid hb1.lt
    have hidx := op_idx (hd ws.tail)
    rw [← hu12] at hidx
    obtain ⟨q, hq⟩ : ∃ q, Lib.idxOfS signsL u1 = q := ⟨_, rfl⟩
    rw [hq] at hidx
    have HQ := Lib.hid hq
    have HRT : Hid (RSt w4 R ws.tail) := Lib.hid (HR2.out.below HB4.out.1)
    obtain ⟨op, hop⟩ : ∃ op, opOf (hd ws.tail) = op := ⟨_, rfl⟩
    rw [hop] at hidx HY0 HY1
    clear hb1 hu1 hs1 hu12 hq hop e4
    refine wp_region_ord (fun W => W.heap[R]? = w4.heap[R]?) 99 [(true, 1), (true, 2), (true, 3), (true, 4), (false, 0), (false, 5), (false, 6)] (by kernel_rfl) (by kernel_rfl) (fun _ _ d _ _ h => by cases d <;> exact h) rfl ?_
    intro wd hwd hS
    simp only [ordOps, List.map_cons, List.map_nil, Array.getD_eq_getD_getElem?, List.getElem?_toArray, List.getElem?_cons_succ, List.getElem?_cons_zero, Option.getD_some]
    iterate 4 (refine wpOrd_q rfl _ (fun w' hS' K hK => (by have x1 := HX.out w' hS'; clear hS'; go_simp; exact hK)) (fun K hK => ?_); go_simp; refine hK _ ?_; clear hK K)
    have HBd : Hid (Below w4.heap.size w4 wd) := Lib.hid (by rw [hwd.out]; exact below_dr1 (Below.refl _ _))
    clear hS hwd
    refine wpOrd_l rfl (fun K hK => ?_)
    go_simp
    refine (signs_c wd).mono ?_
    rintro e w5 ⟨rfl, hw5⟩
    have HB5 : Hid (Below w4.heap.size w4 w5) := Lib.hid (below_tr HBd.out (by rw [hw5]; exact below1 _ _))
    have HI := idxS_c signsL u1 wd 8 rfl (by decide)
    rw [← hw5, HQ.out] at HI
    replace HI := Lib.hid HI
    clear hw5
    go_simp
    refine hK _ _ ⟨fun _ => HB5.out.block R HR4.out, ?_⟩
    clear hK K
    refine wpOrd_l rfl (fun K hK => ?_)
    go_simp
    refine HI.out.mono ?_
    rintro e w6 ⟨rfl, hw6⟩
    subst hw6
    clear HI
    go_simp
    refine hK _ _ ⟨fun _ => HB5.out.block R HR4.out, ?_⟩
    clear hK K
    refine wpOrd_l rfl (fun K hK => ?_)
    go_simp
    refine hK _ _ ⟨fun _ => HB5.out.block R HR4.out, ?_⟩
    clear hK K
    refine wpOrd_nil ?_
    have HDB : Hid (BoxN w6 w2.heap.size [.int .i64 1, .string u, .int .i64 0, .string ⟨#[]⟩, .slice none 0 0] 73 ∧ BoxN w6 w.heap.size [.int .i64 0, .string ⟨#[]⟩, .int .i64 0, .string ⟨#[]⟩, .slice none 0 0] 73) := Lib.hid ⟨HB4.out.2.below HB5.out, ((HB0.out.2.to (HM2.out.block _ HB0.out.2.lt (fun e => by have := HRlt.out; omega))).below HB4.out.1).below HB5.out⟩
    have HRT6 : Hid (RSt w6 R ws.tail) := Lib.hid (HRT.out.below HB5.out)
    have HM6 : Hid (Moves R w w6) := Lib.hid (HM0.out.trans (.of_below (below_tr HB4.out.1 HB5.out)))
    have HNE : Hid (w2.heap.size ≠ w.heap.size ∧ w2.heap.size ≠ R ∧ w.heap.size ≠ R ∧ w.heap.size < w2.heap.size) := Lib.hid (by
      have h1 := HRlt.out
      have h2 := HM2.out.size
      have h3 := HB0.out.2.lt
      omega)
    clear HR2 HX HRT HB5 HBd HB4 HM0 HQ
    rcases hidx with ⟨h0, hq0⟩ | ⟨h0, hq1, hq7⟩
    · have hng : ¬ 0 < q := by omega
      have x0 := HDB.out.1.cell (j := 0) rfl
      have x1 := HDB.out.1.cell (j := 1) rfl
      have x2 := HDB.out.1.cell (j := 2) rfl
      have x3 := HDB.out.1.cell (j := 3) rfl
      have x4 := HDB.out.1.cell (j := 4) rfl
      have z0 := HDB.out.2.cell (j := 0) rfl
      have z1 := HDB.out.2.cell (j := 1) rfl
      have z2 := HDB.out.2.cell (j := 2) rfl
      have z3 := HDB.out.2.cell (j := 3) rfl
      have z4 := HDB.out.2.cell (j := 4) rfl
      have g0 : w6.frozen? ⟨w.heap.size, 0, none⟩ = false := frozen_of HDB.out.2
      have g1 : w6.frozen? ⟨w.heap.size, 1, none⟩ = false := frozen_of HDB.out.2
      have g2 : w6.frozen? ⟨w.heap.size, 2, none⟩ = false := frozen_of HDB.out.2
      have g3 : w6.frozen? ⟨w.heap.size, 3, none⟩ = false := frozen_of HDB.out.2
      have g4 : w6.frozen? ⟨w.heap.size, 4, none⟩ = false := frozen_of HDB.out.2
      have HY := Lib.hid (HY0.out (by first | rfl | trivial) h0)
      clear HY0 HY1 h0 hq0
      obtain ⟨w9, e9⟩ : ∃ w9, (((((w6.setCell ⟨w.heap.size, 0, none⟩ (.int .i64 1)).setCell ⟨w.heap.size, 1, none⟩ (.string u)).setCell ⟨w.heap.size, 2, none⟩ (.int .i64 0)).setCell ⟨w.heap.size, 3, none⟩ (.string ⟨#[]⟩)).setCell ⟨w.heap.size, 4, none⟩ (.slice none 0 0)) = w9 := ⟨_, rfl⟩
      have HB9 : Hid (BoxN w9 w.heap.size [.int .i64 1, .string u, .int .i64 0, .string ⟨#[]⟩, .slice none 0 0] 73 ∧ Moves w.heap.size w6 w9) := Lib.hid (by
        rw [← e9]
        exact ⟨fill5 HDB.out.2 _ _ _ _ _, ((((Moves.set _ _ _ _).trans (Moves.set _ _ _ _)).trans (Moves.set _ _ _ _)).trans (Moves.set _ _ _ _)).trans (Moves.set _ _ _ _)⟩)
      have y0 := HB9.out.1.cell (j := 0) rfl
      have y1 := HB9.out.1.cell (j := 1) rfl
      have y2 := HB9.out.1.cell (j := 2) rfl
      have y3 := HB9.out.1.cell (j := 3) rfl
      have y4 := HB9.out.1.cell (j := 4) rfl
      have HR9 : Hid (w9.heap[R]? = w6.heap[R]?) := Lib.hid (HB9.out.2.block R (by obtain ⟨_, _, h1, _⟩ := HRT6.out; exact h1.lt) (Ne.symm HNE.out.2.2.1))
      have HM9 : Hid (Moves R w w9) := Lib.hid (Moves.leave HM6.out HB9.out.2 (Nat.le_refl _))
      have HF : Hid (POST (.returned (.agg #[.int .i64 1, .string u, .int .i64 0, .string ⟨#[]⟩, .slice none 0 0])) w9) := Lib.hid (HY.out w9 (HRT6.out.moves HR9.out) HM9.out)
      go_wp2_with fail
      refine bodyPost_ret (v := .agg #[.int .i64 1, .string u, .int .i64 0, .string ⟨#[]⟩, .slice none 0 0]) (by simp [results, Tryz.results90, go_sem, y0, y1, y2, y3, y4]) rfl ?_
      exact HF.out
    · subst hq1
      have hg : (0 : Int) < (op : Int) := by omega
      have HY := Lib.hid (HY1.out (by first | rfl | trivial) h0)
      have HN7 := Lib.hid (next_r HRT6.out)
      have HOP7 := Lib.hid hq7
      clear HY0 HY1 h0 hq7
      go_wp2_with fail
      refine HN7.out.mono ?_
      rintro e w7 ⟨rfl, h1, h2⟩
      obtain ⟨t7, v, hb7, hv7, hvs7⟩ := h1.word
      have hvm := mkB_of hv7
      have HT8 := Lib.hid (take_c h1)
      rw [← hvm] at HT8
      have HV := Lib.hid (And.intro hv7 hvs7)
      have HM7 := Lib.hid h2
      clear h1 h2 hb7 hv7 hvs7 hvm HN7
      go_wp2_with fail
      refine HT8.out.mono ?_
      rintro e w8 ⟨rfl, h1, h2⟩
      have HM8 : Hid (Moves R w6 w8) := Lib.hid (HM7.out.trans h2)
      have HD8 : Hid (BoxN w8 w2.heap.size [.int .i64 1, .string u, .int .i64 0, .string ⟨#[]⟩, .slice none 0 0] 73 ∧ BoxN w8 w.heap.size [.int .i64 0, .string ⟨#[]⟩, .int .i64 0, .string ⟨#[]⟩, .slice none 0 0] 73) := Lib.hid ⟨HDB.out.1.to (HM8.out.block _ HDB.out.1.lt HNE.out.2.1), HDB.out.2.to (HM8.out.block _ HDB.out.2.lt HNE.out.2.2.1)⟩
      have HRS8 := Lib.hid h1
      clear h1 h2 HT8 HM7 HDB HRT6
      have x2 := HD8.out.1.cell (j := 2) rfl
      have x3 := HD8.out.1.cell (j := 3) rfl
      have g2 : w8.frozen? ⟨w2.heap.size, 2, none⟩ = false := frozen_of HD8.out.1
      have g3 : w8.frozen? ⟨w2.heap.size, 3, none⟩ = false := frozen_of HD8.out.1
      go_upto_region 9 with fail
      obtain ⟨w10, e10⟩ : ∃ w10, (w8.setCell ⟨w2.heap.size, 2, none⟩ (.int .i64 (op : Int))).setCell ⟨w2.heap.size, 3, none⟩ (.string v) = w10 := ⟨_, rfl⟩
      rw [e10]
      have HDC : Hid (BoxN w10 w2.heap.size [.int .i64 1, .string u, .int .i64 (op : Int), .string v, .slice none 0 0] 73 ∧ BoxN w10 w.heap.size [.int .i64 0, .string ⟨#[]⟩, .int .i64 0, .string ⟨#[]⟩, .slice none 0 0] 73) := Lib.hid (by
        rw [← e10]
        refine ⟨(HD8.out.1.set 2 _).set 3 _, HD8.out.2.to ?_⟩
        rw [set_other _ (Ne.symm HNE.out.1), set_other _ (Ne.symm HNE.out.1)])
      have HMD : Hid (Moves w2.heap.size w8 w10) := Lib.hid (by
        rw [← e10]
        exact (Moves.set _ _ _ _).trans (Moves.set _ _ _ _))
      have HRL8 : Hid (R < w8.heap.size) := Lib.hid (by obtain ⟨_, _, h1, _⟩ := HRS8.out; exact h1.lt)
      have HRL10 : Hid (R < w10.heap.size) := Lib.hid (Nat.lt_of_lt_of_le HRL8.out HMD.out.size)
      have HRS10 : Hid (RSt w10 R ws.tail.tail.tail) := Lib.hid (HRS8.out.moves (HMD.out.block R HRL8.out (Ne.symm HNE.out.2.1)))
      have HM10 : Hid (Moves R w w10) := Lib.hid ((HM6.out.trans HM8.out).leave HMD.out (Nat.le_of_lt HNE.out.2.2.2))
      clear x2 x3 g2 g3 e10
      have x0 := HDC.out.1.cell (j := 0) rfl
      have x1 := HDC.out.1.cell (j := 1) rfl
      have x2 := HDC.out.1.cell (j := 2) rfl
      have x3 := HDC.out.1.cell (j := 3) rfl
      have x4 := HDC.out.1.cell (j := 4) rfl
      have z0 := HDC.out.2.cell (j := 0) rfl
      have z1 := HDC.out.2.cell (j := 1) rfl
      have z2 := HDC.out.2.cell (j := 2) rfl
      have z3 := HDC.out.2.cell (j := 3) rfl
      have z4 := HDC.out.2.cell (j := 4) rfl
      have g0 : w10.frozen? ⟨w.heap.size, 0, none⟩ = false := frozen_of HDC.out.2
      have g1 : w10.frozen? ⟨w.heap.size, 1, none⟩ = false := frozen_of HDC.out.2
      have g2 : w10.frozen? ⟨w.heap.size, 2, none⟩ = false := frozen_of HDC.out.2
      have g3 : w10.frozen? ⟨w.heap.size, 3, none⟩ = false := frozen_of HDC.out.2
      have g4 : w10.frozen? ⟨w.heap.size, 4, none⟩ = false := frozen_of HDC.out.2
      obtain ⟨w9, e9⟩ : ∃ w9, (((((w10.setCell ⟨w.heap.size, 0, none⟩ (.int .i64 1)).setCell ⟨w.heap.size, 1, none⟩ (.string u)).setCell ⟨w.heap.size, 2, none⟩ (.int .i64 (op : Int))).setCell ⟨w.heap.size, 3, none⟩ (.string v)).setCell ⟨w.heap.size, 4, none⟩ (.slice none 0 0)) = w9 := ⟨_, rfl⟩
      have HB9 : Hid (BoxN w9 w.heap.size [.int .i64 1, .string u, .int .i64 (op : Int), .string v, .slice none 0 0] 73 ∧ Moves w.heap.size w10 w9) := Lib.hid (by
        rw [← e9]
        exact ⟨fill5 HDC.out.2 _ _ _ _ _, ((((Moves.set _ _ _ _).trans (Moves.set _ _ _ _)).trans (Moves.set _ _ _ _)).trans (Moves.set _ _ _ _)).trans (Moves.set _ _ _ _)⟩)
      have y0 := HB9.out.1.cell (j := 0) rfl
      have y1 := HB9.out.1.cell (j := 1) rfl
      have y2 := HB9.out.1.cell (j := 2) rfl
      have y3 := HB9.out.1.cell (j := 3) rfl
      have y4 := HB9.out.1.cell (j := 4) rfl
      have HR9 : Hid (w9.heap[R]? = w10.heap[R]?) := Lib.hid (HB9.out.2.block R HRL10.out (Ne.symm HNE.out.2.2.1))
      have HM9 : Hid (Moves R w w9) := Lib.hid (Moves.leave HM10.out HB9.out.2 (Nat.le_refl _))
      have HF : Hid (POST (.returned (.agg #[.int .i64 1, .string u, .int .i64 (op : Int), .string v, .slice none 0 0])) w9) := Lib.hid (HY.out w9 v HV.out.1 HV.out.2 (HRS10.out.moves HR9.out) HM9.out)
      go_wp2_with fail
      refine bodyPost_ret (v := .agg #[.int .i64 1, .string u, .int .i64 (op : Int), .string v, .slice none 0 0]) (by simp [results, Tryz.results90, go_sem, y0, y1, y2, y3, y4]) rfl ?_
      exact HF.out
end Go.Proofs.YtjcefgjgjhdbpaaGreatDoor
