/-
  Calls on no store; the law of none. Helper text; the conditions are those typed.
-/
import Derived.Test.YtnplmembdfklcaaGreatDoorAwake
namespace Go.Proofs.YtnplmembdfklcaaGreatDoor
set_option linter.unusedVariables false
set_option linter.unusedSimpArgs false
open Go.RowKit

theorem laidOut : laidOutB Tryz.prog = true := by kernel_rfl
theorem get_nil (id : Int) (key : ByteArray) (w : World) : Calls Tryz.prog 13 #[.pointer none, .int .i64 id, .string key] w fun e w' => e = .returned (.tuple #[.agg #[.int .i64 0, .int .i64 0, .string ⟨#[]⟩, .slice none 0 0], .int .i64 1]) ∧ Below w.heap.size w w' := by
  obtain ⟨W1, hW1⟩ : ∃ W1, w.alloc (.cells #[.int .i64 0, .int .i64 0, .string ⟨#[]⟩, .slice none 0 0] 31) = W1 := ⟨_, rfl⟩
  have HX1 : Hid (Below w.heap.size w W1 ∧ BoxN W1 w.heap.size [.int .i64 0, .int .i64 0, .string ⟨#[]⟩, .slice none 0 0] 31) := by
    rw [← hW1]
    exact ⟨below1 _ _, boxN_alloc _ _ _⟩
  have c0 := HX1.out.2.cell (j := 0) rfl
  have c1 := HX1.out.2.cell (j := 1) rfl
  have c2 := HX1.out.2.cell (j := 2) rfl
  have c3 := HX1.out.2.cell (j := 3) rfl
  have f0 := HX1.out.2.frozen 0
  have f1 := HX1.out.2.frozen 1
  have f2 := HX1.out.2.frozen 2
  have f3 := HX1.out.2.frozen 3
  go_enter Tryz.func13, Tryz.ntmps13
  go_wp2_with fail
  have HX5 := Lib.hid (store4 HX1.out.2 (.int .i64 0) (.int .i64 0) (.string ⟨#[]⟩) (.slice none 0 0))
  have HBF : Hid (Below w.heap.size w ((((W1.setCell ⟨w.heap.size, 0, none⟩ (.int .i64 0)).setCell ⟨w.heap.size, 1, none⟩ (.int .i64 0)).setCell ⟨w.heap.size, 2, none⟩ (.string ⟨#[]⟩)).setCell ⟨w.heap.size, 3, none⟩ (.slice none 0 0))) := below_sc (below_sc (below_sc (below_sc HX1.out.1 (Nat.le_refl _) _ _) (Nat.le_refl _) _ _) (Nat.le_refl _) _ _) (Nat.le_refl _) _ _
  clear c0 c1 c2 c3 f0 f1 f2 f3 HX1 hW1
  generalize ((((W1.setCell ⟨w.heap.size, 0, none⟩ (.int .i64 0)).setCell ⟨w.heap.size, 1, none⟩ (.int .i64 0)).setCell ⟨w.heap.size, 2, none⟩ (.string ⟨#[]⟩)).setCell ⟨w.heap.size, 3, none⟩ (.slice none 0 0)) = W5 at HX5 HBF ⊢
  have d0 := HX5.out.cell (j := 0) rfl
  have d1 := HX5.out.cell (j := 1) rfl
  have d2 := HX5.out.cell (j := 2) rfl
  have d3 := HX5.out.cell (j := 3) rfl
  refine bodyPost_ret (v := .tuple #[.agg #[.int .i64 0, .int .i64 0, .string ⟨#[]⟩, .slice none 0 0], .int .i64 1]) (by simp [results, Tryz.results13, go_sem, d0, d1, d2, d3]) rfl ?_
  exact ⟨rfl, HBF.out⟩
theorem dir_nil (p : ByteArray) (w : World) : Calls Tryz.prog 15 #[.pointer none, .string p] w fun e w' => e = .returned (.tuple #[.int .i64 0, .int .i64 1]) ∧ Below w.heap.size w w' := by
  go_enter Tryz.func15, Tryz.ntmps15
  go_wp2_with fail
  refine bodyPost_ret (v := .tuple #[.int .i64 0, .int .i64 1]) (by simp [results, Tryz.results15, go_sem]) rfl ?_
  exact ⟨rfl, Below.refl _ _⟩
theorem path_nil (k : Int) (w : World) : Calls Tryz.prog 16 #[.pointer none, .int .i64 k] w fun e w' => e = .returned (.tuple #[.string ⟨#[]⟩, .int .i64 0, .int .i64 1]) ∧ Below w.heap.size w w' := by
  go_enter Tryz.func16, Tryz.ntmps16
  go_wp2_with fail
  refine bodyPost_ret (v := .tuple #[.string ⟨#[]⟩, .int .i64 0, .int .i64 1]) (by simp [results, Tryz.results16, go_sem]) rfl ?_
  exact ⟨rfl, Below.refl _ _⟩
theorem set_nil (id : Int) (key : ByteArray) (k n : Int) (t : ByteArray) (a : Option Addr) (ln c : Nat) (w : World) : Calls Tryz.prog 18 #[.pointer none, .int .i64 id, .string key, .agg #[.int .i64 k, .int .i64 n, .string t, .slice a ln c]] w fun e w' => e = .returned (.int .i64 1) ∧ Below w.heap.size w w' := by
  have HB : Hid (Below w.heap.size w (w.alloc (.cells #[.int .i64 k, .int .i64 n, .string t, .slice a ln c] 31))) := below1 _ _
  go_enter Tryz.func18, Tryz.ntmps18
  go_wp2_with fail
  go_ret
  exact ⟨rfl, HB.out⟩
theorem unset_nil (id : Int) (key : ByteArray) (w : World) : Calls Tryz.prog 19 #[.pointer none, .int .i64 id, .string key] w fun e w' => e = .returned (.int .i64 1) ∧ Below w.heap.size w w' := by
  have HG := Lib.hid (get_nil id key w)
  go_enter Tryz.func19, Tryz.ntmps19
  go_wp2_with (go_at_call 13; refine HG.out.mono ?_; rintro e w1 ⟨rfl, hb1⟩)
  go_ret
  exact ⟨rfl, below_tr hb1 (below1 _ _)⟩
theorem keys_nil (w : World) : Calls Tryz.prog 10 #[.pointer none] w fun e w' => e = .returned (.slice none 0 0) ∧ Below w.heap.size w w' := by
  go_enter Tryz.func10, Tryz.ntmps10
  go_wp2_with fail
  go_ret
  exact ⟨rfl, Below.refl _ _⟩
theorem schema_nil (id : Int) (w : World) : Calls Tryz.prog 20 #[.pointer none, .int .i64 id] w fun e w' => e = .returned (.slice none 0 0) ∧ Below w.heap.size w w' := by
  go_enter Tryz.func20, Tryz.ntmps20
  go_wp2_with fail
  go_ret
  exact ⟨rfl, Below.refl _ _⟩
theorem schemas_nil (w : World) : Calls Tryz.prog 11 #[.pointer none] w fun e w' => e = .returned (.int .i64 0) ∧ Below w.heap.size w w' := by
  go_enter Tryz.func11, Tryz.ntmps11
  go_wp2_with fail
  go_ret
  exact ⟨rfl, Below.refl _ _⟩
theorem search_nil (key : ByteArray) (how : Int) (t : ByteArray) (w : World) : Calls Tryz.prog 14 #[.pointer none, .string key, .int .i64 how, .string t] w fun e w' => e = .returned (.tuple #[.slice none 0 0, .int .i64 1]) ∧ Below w.heap.size w w' := by
  have HB : Hid (Below w.heap.size w ((w.alloc (.cells #[.int .i64 how] 3)).alloc (.cells #[.string t] 9))) := below2 _ _ _
  go_enter Tryz.func14, Tryz.ntmps14
  go_wp2_with fail
  refine bodyPost_ret (v := .tuple #[.slice none 0 0, .int .i64 1]) (by simp [results, Tryz.results14, go_sem]) rfl ?_
  exact ⟨rfl, HB.out⟩
theorem sameTexts_nil (w : World) : Calls Tryz.prog 9 #[.slice none 0 0, .slice none 0 0] w fun e w' => e = .returned (.bool true) ∧ Below w.heap.size w w' := by
  go_enter Tryz.func9, Tryz.ntmps9
  go_wp2_with fail
  go_loopw [5] (fun v5 wr => v5 = .int .i64 0 ∧ wr = w) (fun _ _ => 0)
  case atStart => exact ⟨rfl, rfl⟩
  case round =>
    obtain ⟨rfl, rfl⟩ := hrel
    go_wp2_with fail
    go_ret
    exact ⟨rfl, Below.refl _ _⟩
theorem sameValue_nil (w : World) : Calls Tryz.prog 17 #[.agg #[.int .i64 0, .int .i64 0, .string ⟨#[]⟩, .slice none 0 0], .agg #[.int .i64 0, .int .i64 0, .string ⟨#[]⟩, .slice none 0 0]] w fun e w' => e = .returned (.bool true) ∧ Below w.heap.size w w' := by
  obtain ⟨W1, hW1⟩ : ∃ W1, (w.alloc (.cells #[.int .i64 0, .int .i64 0, .string ⟨#[]⟩, .slice none 0 0] 31)).alloc (.cells #[.int .i64 0, .int .i64 0, .string ⟨#[]⟩, .slice none 0 0] 31) = W1 := ⟨_, rfl⟩
  have HX : Hid (Below w.heap.size w W1 ∧ ∀ w', Below W1.heap.size W1 w' → BoxN w' w.heap.size [.int .i64 0, .int .i64 0, .string ⟨#[]⟩, .slice none 0 0] 31 ∧ BoxN w' (w.heap.size + 1) [.int .i64 0, .int .i64 0, .string ⟨#[]⟩, .slice none 0 0] 31) := by
    rw [← hW1]
    refine ⟨below2 _ _ _, fun w' hb => ⟨((boxN_alloc w _ 31).below (below1 _ _)).below hb, ?_⟩⟩
    have h1 := boxN_alloc (w.alloc (.cells #[.int .i64 0, .int .i64 0, .string ⟨#[]⟩, .slice none 0 0] 31)) [.int .i64 0, .int .i64 0, .string ⟨#[]⟩, .slice none 0 0] 31
    rw [World.size_alloc] at h1
    exact h1.below hb
  obtain ⟨hA, hB⟩ := HX.out.2 W1 (Below.refl _ _)
  have a3 := hA.cell (j := 3) rfl
  have b3 := hB.cell (j := 3) rfl
  have HS := Lib.hid (sameTexts_nil W1)
  replace hA := Lib.hid hA
  replace hB := Lib.hid hB
  go_enter Tryz.func17, Tryz.ntmps17
  go_upto_region 2 with (go_at_call 9; refine HS.out.mono ?_; rintro e w2 ⟨rfl, hb2⟩)
  obtain ⟨hA2, hB2⟩ := HX.out.2 w2 hb2
  have c0 := hA2.cell (j := 0) rfl
  have c1 := hA2.cell (j := 1) rfl
  have c2 := hA2.cell (j := 2) rfl
  have d0 := hB2.cell (j := 0) rfl
  have d1 := hB2.cell (j := 1) rfl
  have d2 := hB2.cell (j := 2) rfl
  replace hb2 := Lib.hid hb2
  clear hA2 hB2 a3 b3 hA hB hW1
  go_wp2_with fail
  go_ret
  exact ⟨rfl, below_tr HX.out.1 hb2.out⟩

set_option maxHeartbeats 4000000 in
set_option maxRecDepth 100000 in
theorem nil_walk (kind id : Int) (key : ByteArray) (vk vn : Int) (vt : ByteArray) (a : Option Addr) (ln c : Nat) (how : Int) (text : ByteArray) (w : World) :
    Calls Tryz.prog 4 #[.agg #[.int .i64 kind, .int .i64 id, .string key, .int .i64 vk, .int .i64 vn, .string vt, .slice a ln c, .int .i64 how, .string text]] w fun e w' => e = .returned (.bool true) ∧ Below w.heap.size w w' := by
  obtain ⟨W1, hW1⟩ : ∃ W1, w.alloc (.cells #[.int .i64 kind, .int .i64 id, .string key, .int .i64 vk, .int .i64 vn, .string vt, .slice a ln c, .int .i64 how, .string text] 33) = W1 := ⟨_, rfl⟩
  have HX1 : Hid (Below w.heap.size w W1 ∧ BoxN W1 w.heap.size [.int .i64 kind, .int .i64 id, .string key, .int .i64 vk, .int .i64 vn, .string vt, .slice a ln c, .int .i64 how, .string text] 33) := by
    rw [← hW1]
    exact ⟨below1 _ _, boxN_alloc _ _ _⟩
  have H0 := Lib.hid awake_c
  have HG := Lib.hid (get_nil id key)
  go_enter Tryz.func4, Tryz.ntmps4
  go_upto_region 5 with (go_at_call 5; refine (H0.out _).mono ?_; rintro e w2 ⟨rfl, hb2⟩)
  have HX2 : Hid (Below w.heap.size w w2 ∧ BoxN w2 w.heap.size [.int .i64 kind, .int .i64 id, .string key, .int .i64 vk, .int .i64 vn, .string vt, .slice a ln c, .int .i64 how, .string text] 33) := ⟨below_tr HX1.out.1 hb2, HX1.out.2.below hb2⟩
  clear hb2 hW1 HX1
  have c1 := HX2.out.2.cell (j := 1) rfl
  have c2 := HX2.out.2.cell (j := 2) rfl
  go_upto_region 6 with (go_at_call 13; refine (HG.out _).mono ?_; rintro e w3 ⟨rfl, hb3⟩)
  clear c1 c2
  obtain ⟨W4, hW4⟩ : ∃ W4, w3.alloc (.cells #[.int .i64 0, .int .i64 0, .string ⟨#[]⟩, .slice none 0 0] 31) = W4 := ⟨_, rfl⟩
  have HX : Hid (Below w.heap.size w W4 ∧ ∀ w', Below W4.heap.size W4 w' → BoxN w' w.heap.size [.int .i64 kind, .int .i64 id, .string key, .int .i64 vk, .int .i64 vn, .string vt, .slice a ln c, .int .i64 how, .string text] 33 ∧ BoxN w' w3.heap.size [.int .i64 0, .int .i64 0, .string ⟨#[]⟩, .slice none 0 0] 31) := by
    rw [← hW4]
    exact ⟨below_tr (below_tr HX2.out.1 hb3) (below1 _ _), fun w' hb => ⟨((HX2.out.2.below hb3).below (below1 _ _)).below hb, (boxN_alloc w3 _ 31).below hb⟩⟩
  rw [hW4]
  clear hW4 hb3 HX2
  have HS := Lib.hid (search_nil key how text)
  have HD := Lib.hid (dir_nil text)
  have HP := Lib.hid (path_nil id)
  have HV := Lib.hid sameValue_nil
  have HSet := Lib.hid (set_nil id key vk vn vt a ln c)
  have HU := Lib.hid (unset_nil id key)
  have HK := Lib.hid keys_nil
  have HSc := Lib.hid (schema_nil id)
  have HSs := Lib.hid schemas_nil
  have hb : Hid (Below W4.heap.size W4 W4) := Below.refl _ _
  have c2 := (HX.out.2 _ hb.out).1.cell (j := 2) rfl
  have c7 := (HX.out.2 _ hb.out).1.cell (j := 7) rfl
  have c8 := (HX.out.2 _ hb.out).1.cell (j := 8) rfl
  go_upto_region 7 with (go_at_call 14; refine (HS.out _).mono ?_; rintro e w5 ⟨rfl, hb5⟩)
  clear c2 c7 c8
  have hc : Hid (Below W4.heap.size W4 w5) := below_tr hb.out hb5
  clear hb hb5
  have c8 := (HX.out.2 _ hc.out).1.cell (j := 8) rfl
  go_upto_region 8 with (go_at_call 15; refine (HD.out _).mono ?_; rintro e w6 ⟨rfl, hb6⟩)
  clear c8
  have hd : Hid (Below W4.heap.size W4 w6) := below_tr hc.out hb6
  clear hc hb6
  have c1 := (HX.out.2 _ hd.out).1.cell (j := 1) rfl
  go_upto_region 9 with (go_at_call 16; refine (HP.out _).mono ?_; rintro e w7 ⟨rfl, hb7⟩)
  clear c1
  have he : Hid (Below W4.heap.size W4 w7) := below_tr hd.out hb7
  clear hd hb7
  have v0 := (HX.out.2 _ he.out).2.cell (j := 0) rfl
  have v1 := (HX.out.2 _ he.out).2.cell (j := 1) rfl
  have v2 := (HX.out.2 _ he.out).2.cell (j := 2) rfl
  have v3 := (HX.out.2 _ he.out).2.cell (j := 3) rfl
  go_wp2_with (first
    | (go_at_call 17; refine (HV.out _).mono ?_; rintro e w8 ⟨rfl, hb8⟩; have hf := Lib.hid (below_tr he.out hb8); have c1 := (HX.out.2 _ hf.out).1.cell (j := 1) rfl; have c2 := (HX.out.2 _ hf.out).1.cell (j := 2) rfl; have c3 := (HX.out.2 _ hf.out).1.cell (j := 3) rfl; have c4 := (HX.out.2 _ hf.out).1.cell (j := 4) rfl; have c5 := (HX.out.2 _ hf.out).1.cell (j := 5) rfl; have c6 := (HX.out.2 _ hf.out).1.cell (j := 6) rfl)
    | (go_at_call 18; refine (HSet.out _).mono ?_; rintro e w9 ⟨rfl, hb9⟩; have hg := Lib.hid (below_tr hf.out hb9); have k1 := (HX.out.2 _ hg.out).1.cell (j := 1) rfl; have k2 := (HX.out.2 _ hg.out).1.cell (j := 2) rfl)
    | (go_at_call 19; refine (HU.out _).mono ?_; rintro e w10 ⟨rfl, hb10⟩; have hh := Lib.hid (below_tr hg.out hb10))
    | (go_at_call 10; refine (HK.out _).mono ?_; rintro e w11 ⟨rfl, hb11⟩; have hi := Lib.hid (below_tr hh.out hb11); have m1 := (HX.out.2 _ hi.out).1.cell (j := 1) rfl)
    | (go_at_call 20; refine (HSc.out _).mono ?_; rintro e w12 ⟨rfl, hb12⟩; have hj := Lib.hid (below_tr hi.out hb12))
    | (go_at_call 11; refine (HSs.out _).mono ?_; rintro e w13 ⟨rfl, hb13⟩))
  go_ret
  exact ⟨rfl, below_tr HX.out.1 (below_tr hj.out hb13)⟩
end Go.Proofs.YtnplmembdfklcaaGreatDoor
