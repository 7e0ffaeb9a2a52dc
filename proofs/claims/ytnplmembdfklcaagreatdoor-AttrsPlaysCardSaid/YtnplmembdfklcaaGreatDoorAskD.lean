/-
  One call of both stores: Set, and what was handed over is written over. Helper text; the conditions are those typed.
-/
import Derived.Test.YtnplmembdfklcaaGreatDoorAskA
import Derived.Test.YtnplmembdfklcaaGreatDoorRefF
namespace Go.Proofs.YtnplmembdfklcaaGreatDoor
set_option linter.unusedVariables false
set_option linter.unusedSimpArgs false
open Go.RowKit Go.Maps

theorem ownsC_own {w0 w : World} {l : List ByteArray} {a : Option Addr} {n c : Nat} (h : OwnS w0 (.slice a n c) l w) : OwnsC w l a w0.heap.size := fun hl => by
  rcases h.1.2 with ⟨_, h0⟩ | ⟨g, cap, cur, hv, hg, hcell, hcap, _, hsz, _⟩
  · exact absurd (List.length_eq_zero_iff.1 h0) hl
  · injection hv with e1 _ _
    exact ⟨g, cur, e1, hg, hcell, by omega⟩

section
variable {w0 : World} {S K V L M : Nat} {role r2 : Nat → Role} {vk vd : Value} {ib : Int → Option Nat} {sl : Int → ByteArray → Value} {n : Nat} {vL vK vN vD : Value} {st : StT} {rt : RefT} {wr w' : World}
/-- What the stores tell behind both Sets. -/
theorem Both.sets (hb : Both st rt) {id : Int} {key : ByteArray} {v : ValT} (hn : (Lit.int .i64 v.num).wf = true) {rt' : RefT} (h1 : rsetErr rt id key v ≠ 0 → rt' = rt) (h2 : rsetErr rt id key v = 0 → ∃ sl, rt' = rsetSt rt id key v sl) : Both (if YtnplmembdfklcaaGreatDoor.setErr st id key v = 0 then setSt st id key v else st) rt' := by
  have he := hb.setErr id key v
  by_cases e : YtnplmembdfklcaaGreatDoor.setErr st id key v = 0
  · rw [if_pos e]
    obtain ⟨sl, rfl⟩ := h2 (he ▸ e)
    exact hb.set hn e sl
  · rw [if_neg e, h1 (fun h => e (he.trans h))]
    exact hb
set_option maxHeartbeats 8000000 in
set_option maxRecDepth 100000 in
theorem ask_set (i : Nat) (hi63 : 3 * i + 3 < maxLen) (h : Duo w0 S K V L M role r2 vk vd ib sl n vL vK vN vD st rt wr) (hn : n ≤ 3 * i) (hb : Both st rt) (hp : PathsOK st.dirs) (o : OpT) (la : Option Addr) (ln lc : Nat) (ho : OpV w0 (· < w0.heap.size) o (.slice la ln lc)) (hk : o.kind = 1) :
    Calls Tryz.prog 8 #[.pointer (some ⟨S, 0, none⟩), .pointer (some ⟨M, 0, none⟩), opAgg o (.slice la ln lc)] wr (AskPost w0 S K V L M i) := by
  obtain ⟨W1, hW1⟩ : ∃ W1, wr.alloc (.cells #[.int .i64 o.kind, .int .i64 o.id, .string o.key, .int .i64 o.v.kind, .int .i64 o.v.num, .string o.v.text, .slice la ln lc, .int .i64 o.how, .string o.text] 33) = W1 := ⟨_, rfl⟩
  obtain ⟨H5, hH5⟩ : ∃ H5, wr.heap.size = H5 := ⟨_, rfl⟩
  have HX : Hid (Below wr.heap.size wr W1 ∧ BoxN W1 H5 (opCells o (.slice la ln lc)) 33) := by
    rw [← hW1, ← hH5]
    exact ⟨below1 _ _, opBox _ _ _⟩
  have HLI : Hid (∀ W, Below w0.heap.size w0 W → StrsV W (· < w0.heap.size) o.v.list (.slice la ln lc)) := fun W hw => ho.list.keep (fun _ h => h) (fun b hb _ => hw.block b hb)
  have HLN := Lib.hid ho.list.len
  have HSZ : Hid ((∀ s ∈ o.v.list, s.size ≤ maxLen) ∧ ln * 16 ≤ 140737488355328) := by
    obtain ⟨_, _, _, h1, h2, _⟩ := ho.list
    rw [ho.list.len] at h2
    exact ⟨h1, h2⟩
  have HFR : Hid (∀ b, wr.heap.size ≤ b → role b = .free ∧ r2 b = .free ∧ w0.heap.size ≤ b) := fun b hb => ⟨h.store.hi.free hb, h.ref.hi.free hb, Nat.le_trans h.below.size hb⟩
  -- v, a copy
  obtain ⟨W2, hW2⟩ : ∃ W2, W1.alloc (.cells #[.int .i64 o.v.kind, .int .i64 o.v.num, .string o.v.text, .slice la ln lc] 31) = W2 := ⟨_, rfl⟩
  obtain ⟨H7, hH7⟩ : ∃ H7, W1.heap.size = H7 := ⟨_, rfl⟩
  have HX2 : Hid (Below wr.heap.size wr W2 ∧ BoxN W2 H5 (opCells o (.slice la ln lc)) 33 ∧ BoxN W2 H7 [.int .i64 o.v.kind, .int .i64 o.v.num, .string o.v.text, .slice la ln lc] 31 ∧ wr.heap.size ≤ H7 ∧ H7 < W2.heap.size ∧ H5 ≠ H7) := by
    rw [← hW2, ← hH7]
    refine ⟨below_tr HX.out.1 (below1 _ _), HX.out.2.below (below1 _ _), boxN_alloc _ _ _, HX.out.1.size, by simp, fun e => ?_⟩
    have := HX.out.2.lt
    omega
  have HD2 := Lib.hid (h.up HX2.out.1)
  have HDr := Lib.hid h
  have HE : Hid (∀ W role' r2' vk' vd' ib' sl' n' vL' vK' vN' vD' st' rt', Duo w0 S K V L M role' r2' vk' vd' ib' sl' n' vL' vK' vN' vD' st' rt' W → n' ≤ n + 3 → Both st' rt' → PathsOK st'.dirs → AskPost w0 S K V L M i (.returned (.bool true)) W) := fun W role' r2' vk' vd' ib' sl' n' vL' vK' vN' vD' st' rt' hd hn' hb' hp' => ⟨rfl, _, _, _, _, _, _, _, _, _, _, _, _, _, hd, by omega, hb', hp'⟩
  have HPS : Hid (PathsOK (if setErr st o.id o.key o.v = 0 then setSt st o.id o.key o.v else st).dirs) := by
    unfold Hid
    split
    · exact hp
    · exact hp
  obtain ⟨er, her⟩ : ∃ er, setErr st o.id o.key o.v = er := ⟨_, rfl⟩
  have her2 : rsetErr rt o.id o.key o.v = er := by rw [← hb.setErr, her]
  have HSET : Hid (∀ W a c, Duo w0 S K V L M role r2 vk vd ib sl n vL vK vN vD st rt W → StrsV W (fun b => W2.heap.size ≤ b) o.v.list (.slice a ln c) → Calls Tryz.prog 18 #[.pointer (some ⟨S, 0, none⟩), .int .i64 o.id, .string o.key, .agg #[.int .i64 o.v.kind, .int .i64 o.v.num, .string o.v.text, .slice a ln c]] W fun e w' => e = .returned (.int .i64 er) ∧ ∃ role' vk' ib' sl', Moved role W role' w' ∧ StoreIn w' w0.heap.size role' S K V L vk' vd ib' sl' (n + 3) (if setErr st o.id o.key o.v = 0 then setSt st o.id o.key o.v else st)) := fun W a c hd hs => by
    have := set_c hd.store hd.below.size (by omega) hb.kok.len o.id o.key ho.key o.v a ln c _ hs (fun b hb => .inl (HFR.out b (Nat.le_trans HX2.out.1.size hb)).1)
    unfold SetPost at this
    rw [← her]
    exact this
  have HRSET : Hid (∀ W role' vk' vd' ib' sl' n' st', Duo w0 S K V L M role' r2 vk' vd' ib' sl' n' vL vK vN vD st' rt W → Calls Tryz.prog 22 #[.pointer (some ⟨M, 0, none⟩), .int .i64 o.id, .string o.key, .agg #[.int .i64 o.v.kind, .int .i64 o.v.num, .string o.v.text, .slice la ln lc]] W fun e w' => e = .returned (.int .i64 er) ∧ ∃ r2' vL' vK' vN' rt', Moved r2 W r2' w' ∧ RefIn w' w0.heap.size r2' M vL' vK' vN' vD rt' ∧ Both (if setErr st o.id o.key o.v = 0 then setSt st o.id o.key o.v else st) rt') := fun W role' vk' vd' ib' sl' n' st' hd => by
    have hkl := hb.kok.len
    rw [hb.keys] at hkl
    refine (rset_c hd.ref hd.below.size hb.klen hkl hb.small o.id o.key ho.key o.v la ln lc _ (HLI.out W hd.below) (fun b hb => .inl (hd.lo.2 b hb))).mono fun e w' h => ?_
    obtain ⟨he, r2', vL', vK', vN', rt', hm, hs, h1, h2⟩ := h
    exact ⟨by rw [he, her2], r2', vL', vK', vN', rt', hm, hs, hb.sets ho.numw h1 h2⟩
  have q1 : (er == er) = true := by simp
  have c0 := HX.out.2.cell (j := 0) rfl
  have c3 := HX.out.2.cell (j := 3) rfl
  have c4 := HX.out.2.cell (j := 4) rfl
  have c5 := HX.out.2.cell (j := 5) rfl
  have c6 := HX.out.2.cell (j := 6) rfl
  rw [hk] at c0
  rw [hk] at hW1
  unfold opAgg
  rw [hk]
  have hZ1 : Hid (wr.heap.size = H5) := hH5
  generalize (if setErr st o.id o.key o.v = 0 then setSt st o.id o.key o.v else st) = st' at HPS HSET HRSET
  clear h hn hb hp hk ho her her2 HX
  generalize AskPost w0 S K V L M i = Q at HE ⊢
  go_enter Tryz.func8, Tryz.ntmps8
  go_upto_region 4 with fail
  have HTX : Hid (TxtsAt (W2.alloc (.cells #[] 9)) la o.v.list) := (txts_of_strs (HLI.out W2 HD2.out.below)).below (below1 _ _)
  have HB7 := Lib.hid (HX2.out.2.2.1.below (below1 W2 (.cells #[] 9)))
  have y6 : (W2.alloc (.cells #[] 9)).cell? ⟨H5, 6, none⟩ = some (.slice la ln lc) := (HX2.out.2.1.below (below1 W2 (.cells #[] 9))).cell (j := 6) rfl
  have HNE : Hid (some H7 ≠ (Value.slice (some ⟨W2.heap.size, 0, none⟩) 0 0).ownBlock) := fun e => by have h1 := HX2.out.2.2.2.2.1; have h2 : H7 = W2.heap.size := Option.some.inj e; omega
  have HLIM : Hid ((([] : List ByteArray).length + o.v.list.length) * 16 ≤ 140737488355328) := by
    have h1 := HLN.out
    have h2 := HSZ.out.2
    rw [Hid, h1]
    simpa using h2
  clear c0 c3 c4 c5 c6
  go_upto_region 5 with (at_builtin; go_loud (refine wpList_appS (w0 := W2) rfl (.tmp 37) (.tmp 40) rfl _ la ln lc [] o.v.list rfl rfl (OwnS.made W2) HLN.out.symm HTX.out HLIM.out ?_; intro v7 w7 h7 hg7; obtain ⟨a7, c7, hv7, _⟩ := h7.slice; rw [show (([] : List ByteArray) ++ o.v.list).length = ln from HLN.out] at hv7; subst hv7; have y7 := (HB7.out.to (hg7.block _ HB7.out.lt HNE.out)).cell (j := 3) rfl; have z7 := (HB7.out.to (hg7.block _ HB7.out.lt HNE.out)).frozen 3))
  obtain ⟨w8, e8⟩ : ∃ w8, w7.setCell ⟨H7, 3, none⟩ (.slice a7 ln c7) = w8 := ⟨_, rfl⟩
  have H8 : Hid (Below wr.heap.size wr w8 ∧ BoxN w8 H5 (opCells o (.slice la ln lc)) 33 ∧ BoxN w8 H7 [.int .i64 o.v.kind, .int .i64 o.v.num, .string o.v.text, .slice a7 ln c7] 31 ∧ StrsV w8 (fun b => W2.heap.size ≤ b) o.v.list (.slice a7 ln c7) ∧ OwnsC w8 o.v.list a7 W2.heap.size) := by
    have hlt := HX2.out.2.2.2.2.1
    have hb7 : Below W2.heap.size W2 w7 := h7.2
    have hs7 : StrsV w7 (fun b => W2.heap.size ≤ b) o.v.list (.slice a7 ln c7) := strs_of_own (l := o.v.list) h7 HSZ.out.1 (by rw [HLN.out]; exact HSZ.out.2)
    have ho7 : OwnsC w7 o.v.list a7 W2.heap.size := ownsC_own h7
    rw [← e8]
    refine ⟨below_sc (HX2.out.1.trans (below_to hb7 HX2.out.1.size)) HX2.out.2.2.2.1 3 _, (HX2.out.2.1.below hb7).other HX2.out.2.2.2.2.2 3 _, (HX2.out.2.2.1.below hb7).set 3 _, hs7.keep (fun _ h => h) (fun b hb _ => set_other _ (by omega)), ho7.keep (Nat.le_refl _) (fun b hb => set_other _ (by omega))⟩
  rw [e8]
  clear e8 h7 hg7 y6 y7 z7 HTX HB7 HNE HLIM
  have HD8 := Lib.hid (HDr.out.up H8.out.1)
  have HS8 := Lib.hid (HSET.out w8 a7 c7 HD8.out H8.out.2.2.2.1)
  have d1 := H8.out.2.1.cell (j := 1) rfl
  have d2 := H8.out.2.1.cell (j := 2) rfl
  have x0 := H8.out.2.2.1.cell (j := 0) rfl
  have x1 := H8.out.2.2.1.cell (j := 1) rfl
  have x2 := H8.out.2.2.1.cell (j := 2) rfl
  have x3 := H8.out.2.2.1.cell (j := 3) rfl
  go_upto_region 6 with (go_at_call 18; refine HS8.out.mono ?_; rintro e w9 ⟨rfl, role', vk', ib', sl', hm9, hs9⟩)
  have HF5 : Hid (wr.heap.size ≤ H5) := Nat.le_of_eq hZ1.out
  have HL0 : Hid (Duo w0 S K V L M role' r2 vk' vd ib' sl' (n + 3) vL vK vN vD st' rt w9 ∧ BoxN w9 H5 (opCells o (.slice la ln lc)) 33 ∧ BoxN w9 H7 [.int .i64 o.v.kind, .int .i64 o.v.num, .string o.v.text, .slice a7 ln c7] 31 ∧ OwnsC w9 o.v.list a7 W2.heap.size) := by
    refine ⟨HD8.out.step1 hm9 hs9, H8.out.2.1.to (hm9.block H8.out.2.1.lt (HFR.out H5 HF5.out).1).1, H8.out.2.2.1.to (hm9.block H8.out.2.2.1.lt (HFR.out H7 HX2.out.2.2.2.1).1).1, fun hl => ?_⟩
    obtain ⟨g, cur, h1, h2, h3, h4⟩ := H8.out.2.2.2.2 hl
    exact ⟨g, cur, h1, h2, (hm9.block (Array.getElem?_eq_some_iff.1 h3).1 (HFR.out g (Nat.le_trans HX2.out.1.size h2)).1).1.trans h3, h4⟩
  have HRF : Hid (∀ g, a7 = some ⟨g, 0, none⟩ → o.v.list ≠ [] → role' g = .free) := fun g hg hl => by
    obtain ⟨g', cur, h1, h2, h3, h4⟩ := H8.out.2.2.2.2 hl
    rw [hg] at h1
    cases h1
    exact (hm9.block (Array.getElem?_eq_some_iff.1 h3).1 (HFR.out g (Nat.le_trans HX2.out.1.size h2)).1).2
  have HGT : Hid (∀ g, W2.heap.size ≤ g → g ≠ H5 ∧ g ≠ H7 ∧ wr.heap.size ≤ g) := fun g hg => by
    have h1 := HX2.out.2.2.2.2.1
    have h2 := HX2.out.1.size
    have h3 := HX2.out.2.1.lt
    exact ⟨by omega, by omega, by omega⟩
  have hln2 : ln ≤ 9223372036854775807 := by
    have := HSZ.out.2
    omega
  clear d1 d2 x0 x1 x2 x3 hm9 hs9 HS8 HD8 H8 HSET HD2 HDr
  obtain ⟨wo, rfl⟩ : ∃ x : World, x = wr := ⟨_, rfl⟩
  go_wp2_with fail
  go_loopw [9] (fun v9 wr => ∃ j : Nat, v9 = .int .i64 j ∧ j ≤ ln ∧ Hid (Duo w0 S K V L M role' r2 vk' vd ib' sl' (n + 3) vL vK vN vD st' rt wr ∧ BoxN wr H5 (opCells o (.slice la ln lc)) 33 ∧ BoxN wr H7 [.int .i64 o.v.kind, .int .i64 o.v.num, .string o.v.text, .slice a7 ln c7] 31 ∧ OwnsC wr o.v.list a7 W2.heap.size)) (fun v9 _ => ln - (intOf v9).toNat)
  case atStart => exact ⟨0, rfl, Nat.zero_le _, HL0⟩
  case round =>
    obtain ⟨j, rfl, hj, HI⟩ := hrel
    have p3 := HI.out.2.2.1.cell (j := 3) rfl
    by_cases hlt : j < ln
    · have hj1 : (j : Int) < (ln : Int) := by omega
      have hne : o.v.list ≠ [] := fun e => by have := HLN.out; rw [e] at this; simp at this; omega
      obtain ⟨g, cur, rfl, hg1, hg2, hg3⟩ := HI.out.2.2.2 hne
      have hcl : j < cur.size := by have := HLN.out; omega
      have x0 : wr.cell? ⟨g, j, none⟩ = some cur[j] := cell_of hg2 (by rw [Array.getElem?_eq_getElem hcl])
      have x1 : wr.frozen? ⟨g, j, none⟩ = false := frozen_of hg2
      have HNX : Hid (∀ x, Duo w0 S K V L M role' r2 vk' vd ib' sl' (n + 3) vL vK vN vD st' rt (wr.setCell ⟨g, j, none⟩ x) ∧ BoxN (wr.setCell ⟨g, j, none⟩ x) H5 (opCells o (.slice la ln lc)) 33 ∧ BoxN (wr.setCell ⟨g, j, none⟩ x) H7 [.int .i64 o.v.kind, .int .i64 o.v.num, .string o.v.text, .slice (some ⟨g, 0, none⟩) ln c7] 31 ∧ OwnsC (wr.setCell ⟨g, j, none⟩ x) o.v.list (some ⟨g, 0, none⟩) W2.heap.size) := fun x => by
        obtain ⟨e1, e2, e3⟩ := HGT.out g hg1
        obtain ⟨f1, f2, f3⟩ := HFR.out g e3
        refine ⟨HI.out.1.set_free (HRF.out g rfl hne) f2 f3 j x, HI.out.2.1.other (Ne.symm e1) j x, HI.out.2.2.1.other (Ne.symm e2) j x, fun hl => ⟨g, _, rfl, hg1, set_cells hg2 x, by simpa using hg3⟩⟩
      generalize cur[j] = cj at x0
      clear hg2 hne
      go_wp2_with fail
      go_roundw
      case rel => exact ⟨j + 1, by go_num, by omega, HNX.out _⟩
      case measure => simp [intOf]; omega
    · have hj1 : ¬ (j : Int) < (ln : Int) := by omega
      have HS10 := Lib.hid (HRSET.out wr _ _ _ _ _ _ _ HI.out.1)
      have d1 := HI.out.2.1.cell (j := 1) rfl
      have d2 := HI.out.2.1.cell (j := 2) rfl
      have d3 := HI.out.2.1.cell (j := 3) rfl
      have d4 := HI.out.2.1.cell (j := 4) rfl
      have d5 := HI.out.2.1.cell (j := 5) rfl
      have d6 := HI.out.2.1.cell (j := 6) rfl
      go_wp2_with (go_at_call 22; refine HS10.out.mono ?_; rintro e w11 ⟨rfl, r2', vL', vK', vN', rt', hm11, hs11, hb11⟩)
      have HFIN := Lib.hid (HE.out w11 _ _ _ _ _ _ _ _ _ _ _ _ _ (HI.out.1.step2 hm11 hs11) (Nat.le_refl _) hb11 HPS.out)
      exact HFIN.out
end
end Go.Proofs.YtnplmembdfklcaaGreatDoor
