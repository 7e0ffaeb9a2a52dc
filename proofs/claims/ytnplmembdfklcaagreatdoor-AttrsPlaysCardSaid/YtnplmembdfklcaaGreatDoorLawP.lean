/-
  The walk of AttrsPlays. Helper text; the conditions are those typed.
-/
import Derived.Test.YtnplmembdfklcaaGreatDoorAskB
import Derived.Test.YtnplmembdfklcaaGreatDoorAskC
import Derived.Test.YtnplmembdfklcaaGreatDoorAskD
namespace Go.Proofs.YtnplmembdfklcaaGreatDoor
set_option linter.unusedVariables false
set_option linter.unusedSimpArgs false
open Go.RowKit Go.Maps

theorem both0 : Both st0 rt0 where
  keys := rfl
  nd := List.nodup_nil
  klen := rfl
  kind := fun k x => ⟨fun h => (by cases h), fun ⟨i, h, _⟩ => (by simp [rt0] at h)⟩
  val := fun id k v => ⟨fun h => (by cases h), fun ⟨p, h, _⟩ => (by cases h)⟩
  one := List.nodup_nil
  kok := ⟨by decide, fun k h => (by cases h), fun _ _ _ h => (by cases h)⟩
  sok := fun _ _ _ h => (by cases h)
  dirs := rfl
  dok := dirs0
  dlen := by decide
theorem paths0 : PathsOK st0.dirs := fun d hd => by
  have : d = ([47], 0) := by simpa [st0] using hd
  subst this
  exact ⟨[], by unfold upsL; exact if_pos rfl⟩
theorem ask_any {w0 : World} {S K V L M : Nat} {wr : World} (i : Nat) (hi63 : 3 * i + 3 < maxLen) (h : Pair w0 S K V L M i wr) (hP : Pow w0) (hM : MaxLenC w0) (o : OpT) (la : Option Addr) (ln lc : Nat) (ho : OpV w0 (· < w0.heap.size) o (.slice la ln lc)) :
    Calls Tryz.prog 8 #[.pointer (some ⟨S, 0, none⟩), .pointer (some ⟨M, 0, none⟩), opAgg o (.slice la ln lc)] wr (AskPost w0 S K V L M i) := by
  obtain ⟨role, r2, vk, vd, ib, sl, n, vL, vK, vN, vD, st, rt, hd, hn, hb, hp⟩ := h
  by_cases h1 : o.kind = 1
  · exact ask_set i hi63 hd hn hb hp o la ln lc ho h1
  by_cases h2 : o.kind = 2
  · exact ask_get i hd hn hb hp o ho la ln lc h2
  by_cases h3 : o.kind = 3
  · exact ask_unset i hd hn hb hp o ho la ln lc h3
  by_cases h4 : o.kind = 4
  · exact ask_search i hd hn hb hp hP hM o ho la ln lc h4
  by_cases h5 : o.kind = 5
  · exact ask_dir i hd hn hb hp o la ln lc h5
  by_cases h6 : o.kind = 6
  · exact ask_path i hd hn hb hp o la ln lc h6
  by_cases h7 : o.kind = 7
  · exact ask_schema i hd hn hb hp o ho la ln lc h7
  exact ask_other i hd hn hb hp o la ln lc (by omega)

set_option maxHeartbeats 8000000 in
set_option maxRecDepth 100000 in
theorem plays_walk (l : List OpT) (a : Option Addr) (N c : Nat) (w : World) (hl : OpsV w (· < w.heap.size) l (.slice a N c)) (hM : MaxLenC w) (hP : Pow w) :
    Calls Tryz.prog 3 #[.slice a N c] w fun e w' => e = .returned (.bool true) ∧ Below w.heap.size w w' := by
  have H0 : Hid (∀ w', Calls Tryz.prog 5 #[] w' fun e w'' => e = .returned (.bool true) ∧ Below w'.heap.size w' w'') := awake_c
  obtain ⟨a', c', he, hN, hin⟩ := hl
  injection he with e1 e2 e3
  subst e1 e3
  have hln := Lib.hid e2
  rw [← e2] at hN
  clear e2
  replace hin := Lib.hid hin
  replace hM := Lib.hid hM
  replace hP := Lib.hid hP
  have hN2 : 3 * N + 3 < maxLen := by unfold maxLen; omega
  go_enter Tryz.func3, Tryz.ntmps3
  go_upto_region 2 with (go_at_call 5; refine (H0.out _).mono ?_; rintro e w1 ⟨rfl, hb1⟩)
  have HB1 := Lib.hid hb1
  clear hb1
  have HN : Hid (Calls Tryz.prog 6 #[] w1 fun e w' => (∃ S, e = .returned (.pointer (some ⟨S, 0, none⟩)) ∧ ∃ role K V L vd, StoreIn w' w.heap.size role S K V L (.slice none 0 0) vd (fun _ => none) (fun _ _ => .slice none 0 0) 0 st0 ∧ (∀ b, b < w1.heap.size → role b = .free)) ∧ Below w1.heap.size w1 w') := new_c w.heap.size w1 HB1.out.size
  go_upto_region 3 with (go_at_call 6; refine HN.out.mono ?_; rintro e w2 ⟨⟨S, rfl, HNEW⟩, hb2⟩)
  obtain ⟨role0, K, V, L, vd, hs0, hf0⟩ := HNEW
  have HB2 : Hid (Below w.heap.size w w2) := below_tr HB1.out hb2
  have HS2 := Lib.hid hs0
  have HN2 := Lib.hid (rnew_c w.heap.size w2 HB2.out.size)
  clear hb2 hs0 hf0 HN HB1 H0
  go_upto_region 4 with (go_at_call 7; refine HN2.out.mono ?_; rintro e w3 ⟨⟨M, rfl, HNEW2⟩, hb3⟩)
  obtain ⟨r20, vD0, hr0, hf2⟩ := HNEW2
  have HI0 : Hid (Pair w S K V L M 0 w3) := by
    refine ⟨role0, r20, _, _, _, _, _, _, _, _, _, st0, rt0, ⟨below_tr HB2.out hb3, HS2.out.below HB2.out.size hb3, hr0, fun b hb => hf2 b (HS2.out.hi b hb)⟩, Nat.le_refl _, both0, paths0⟩
  clear hb3 hr0 hf2 HN2 HS2 HB2
  go_wp2_with fail
  go_loopw [6, 7] (fun v6 v7 wr => ∃ i : Nat, v6 = .int .i64 i ∧ i ≤ N ∧ Hid (Pair w S K V L M i wr)) (fun v6 _ _ => N - (intOf v6).toNat)
  case atStart => exact ⟨0, rfl, Nat.zero_le _, HI0⟩
  case round =>
    obtain ⟨i, rfl, hi, HI⟩ := hrel
    clear HI0
    by_cases hlt : i < N
    · have hi1 : (i : Int) < (N : Int) := by omega
      have hlen : i < l.length := by have := hln.out; omega
      have hne : l ≠ [] := fun e => by rw [e] at hlen; exact absurd hlen (Nat.not_lt_zero _)
      obtain ⟨b, off, hab, hbS, hcells⟩ := hin.out hne
      subst hab
      obtain ⟨vl, ho, hc⟩ := hcells i hlen
      generalize hoi : l[i] = o at ho hc
      clear hoi
      have HBW : Hid (Below w.heap.size w wr) := by
        obtain ⟨_, _, _, _, _, _, _, _, _, _, _, _, _, hd, _⟩ := HI.out
        exact hd.below
      have hcw : ∀ j u, (opCells o vl)[j]? = some u → wr.cell? ⟨b, off + i * 9 + j, none⟩ = some u := fun j u hj => cell_blk (HBW.out.block b hbS) (hc j u hj)
      obtain ⟨la, lc, hvl, _⟩ := id ho.list
      obtain ⟨ln, hlnv⟩ : ∃ ln, o.v.list.length = ln := ⟨_, rfl⟩
      rw [hlnv] at hvl
      subst hvl
      have HASK := Lib.hid (ask_any i (by omega) HI.out hP.out hM.out o la ln lc ho)
      unfold opAgg at HASK
      have c0 := hcw 0 _ rfl
      rw [Nat.add_zero] at c0
      have c1 := hcw 1 _ rfl
      have c2 := hcw 2 _ rfl
      have c3 := hcw 3 _ rfl
      have c4 := hcw 4 _ rfl
      have c5 := hcw 5 _ rfl
      have c6 := hcw 6 _ rfl
      have c7 := hcw 7 _ rfl
      have c8 := hcw 8 _ rfl
      clear hcells hc ho hcw hlnv HI
      go_wp2_with (go_at_call 8; refine HASK.out.mono ?_; rintro e w4 ⟨rfl, hp4⟩)
      replace hp4 := Lib.hid hp4
      go_roundw
      case rel => exact ⟨i + 1, by go_num, by omega, hp4⟩
      case measure => simp [intOf]; omega
    · have hi1 : ¬ (i : Int) < (N : Int) := by omega
      clear hi hin hln
      obtain ⟨role, r2, vk, vd', ib, sl, n, vL, vK, vN, vD, st, rt, hd, hn, hb, hp⟩ := HI.out
      have HD := Lib.hid hd
      have HBO := Lib.hid hb
      clear hd hn hb hp HI
      have HKS : Hid (∀ k ∈ rt.keys, k.size ≤ 60) := fun k hk => nameB_size (HBO.out.kok.name k (by rw [HBO.out.keys]; exact hk))
      have HKL : Hid (rt.keys.length ≤ 64) := by have := HBO.out.kok.len; rw [HBO.out.keys] at this; exact this
      obtain ⟨kl, hkl⟩ : ∃ kl, rt.keys.length = kl := ⟨_, rfl⟩
      have HKLN := Lib.hid hkl
      obtain ⟨ka, kc, hvK⟩ : ∃ ka kc, vK = .slice ka kl kc := by
        obtain ⟨a, c, e⟩ := ownsRow_slice HD.out.ref.keys
        exact ⟨a, c, by rw [e, hkl]⟩
      subst hvK
      have HBX := Lib.hid HD.out.ref.box
      have HQ : Hid (∀ W : World, W.heap[M]? = wr.heap[M]? → W.cell? ⟨M, 1, none⟩ = some (.slice ka kl kc)) := fun W hW => (HBX.out.to hW).cell (j := 1) rfl
      have HML : Hid (M < wr.heap.size) := HBX.out.lt
      have HKEYS : Hid (∀ W, Below wr.heap.size wr W → Calls Tryz.prog 10 #[.pointer (some ⟨S, 0, none⟩)] W fun e w' => (∃ a c, e = .returned (.slice a kl c) ∧ TxtsAt w' a rt.keys) ∧ Below W.heap.size W w') := fun W hW => by
        refine (keys_c (HD.out.up hW).store HBO.out.kok).mono fun e w' ⟨⟨a, c, he, hs⟩, hb'⟩ => ⟨⟨a, c, ?_, ?_⟩, hb'⟩
        · rw [he, HBO.out.keys, HKLN.out]
        · have := txts_of_strs hs
          rw [HBO.out.keys] at this
          exact this
      have HK2 : Hid (∀ W, Below wr.heap.size wr W → TxtsAt W ka rt.keys) := fun W hW => by
        have h1 := (HD.out.up hW).ref.keys
        rw [HKLN.out] at h1
        have h2 := own_strs (l := rt.keys) (by rw [HKLN.out]; exact h1) (fun s hs => by have := HKS.out s hs; unfold maxLen; omega) (by have := HKL.out; omega)
        exact txts_of_strs h2
      have HSCH : Hid (∀ W, Below wr.heap.size wr W → Calls Tryz.prog 11 #[.pointer (some ⟨S, 0, none⟩)] W fun e w' => e = .returned (.int .i64 (rschemas rt.l : Nat)) ∧ Below W.heap.size W w') := fun W hW =>
        (schemas_c (HD.out.up hW).store (HD.out.up hW).below.size HBO.out.kok HBO.out.sok).mono fun e w' ⟨ids, c, he, hids, hc, hb'⟩ => by
          rw [HBO.out.schemas hids] at hc
          exact ⟨by rw [he, hc], hb'⟩
      have HSCH2 : Hid (∀ W, Below wr.heap.size wr W → Calls Tryz.prog 12 #[.pointer (some ⟨M, 0, none⟩)] W fun e w' => e = .returned (.int .i64 (rschemas rt.l : Nat)) ∧ Below W.heap.size W w') := fun W hW =>
        rschemas_c (HD.out.up hW).ref (HD.out.up hW).below.size HBO.out.small
      obtain ⟨R, hR⟩ : ∃ R, rschemas rt.l = R := ⟨_, rfl⟩
      rw [hR] at HSCH HSCH2
      have HBW : Hid (Below w.heap.size w wr) := HD.out.below
      have hkl64 : kl ≤ 64 := by have := HKL.out; omega
      clear hkl hR hM hP HD HBO
      go_upto_region 12 with fail
      refine Two.wp_region_ord2 (fun W => W.heap[M]? = wr.heap[M]?) (fun _ => True) 7 7 [(.qb, 0), (.qb, 2), (.qb, 3), (.qb, 4), (.qa, 5), (.l0, 1), (.l0, 6), (.l2, 7)] (by kernel_rfl) (by kernel_rfl) (fun _ _ d _ _ h => by cases d <;> exact h) rfl trivial ?_
      intro wd hwd hS hS2
      simp only [Two.ordOps2, List.map_cons, List.map_nil, Array.getD_eq_getD_getElem?, List.getElem?_toArray, List.getElem?_cons_succ, List.getElem?_cons_zero, Option.getD_some]
      have HBd : Hid (Below wr.heap.size wr wd) := by rw [hwd.out]; exact (Below.refl _ _).drew
      iterate 4 (refine Two.step_qb rfl _ (fun w' hS' K hK => (by clear hS'; go_simp; exact hK)) (fun K hK => ?_); go_simp; refine hK _ ?_; clear hK K)
      refine Two.step_qa rfl _ (fun w' hS' K hK => (by have q1 := HQ.out w' hS'; clear hS'; go_simp; exact hK)) (fun K hK => ?_); go_simp; refine hK _ ?_; clear hK K
      refine Two.step_l0 rfl (fun K hK => ?_)
      go_simp
      refine (HKEYS.out wd HBd.out).mono ?_
      rintro e w5 ⟨⟨a5, c5, rfl, ht5⟩, hb5⟩
      have HB5 : Hid (Below wr.heap.size wr w5) := below_tr HBd.out hb5
      have HSAME : Hid (Calls Tryz.prog 9 #[.slice a5 kl c5, .slice ka kl kc] w5 fun e w' => e = .returned (.bool true) ∧ Below w5.heap.size w5 w') := by
        have h1 := same_c w5 a5 ka kl kl c5 kc rt.keys rt.keys HKLN.out HKLN.out ht5 (HK2.out w5 HB5.out) (by unfold maxLen; omega)
        rw [decide_eq_true rfl] at h1
        exact h1
      refine hK _ _ ⟨⟨HB5.out.block _ HML.out, trivial⟩, ?_⟩
      clear hK K ht5 hb5
      refine Two.step_l0 rfl (fun K hK => ?_)
      go_simp
      refine HSAME.out.mono ?_
      rintro e w6 ⟨rfl, hb6⟩
      have HB6 : Hid (Below wr.heap.size wr w6) := below_tr HB5.out hb6
      refine hK _ _ ⟨⟨HB6.out.block _ HML.out, trivial⟩, ?_⟩
      clear hK K hb6
      refine Two.step_l2 rfl (fun K hK => ?_)
      go_simp
      refine hK _ _ ?_
      clear hK K
      refine Two.step_nil ?_
      have q1 : ((R : Int) == (R : Int)) = true := by simp
      clear HSAME HKEYS HK2 HQ hwd hS hS2 HBd HB5
      go_wp2_with (first | (go_at_call 11; refine (HSCH.out w6 HB6.out).mono ?_; rintro e w7 ⟨rfl, hb7⟩; have HB7 := Lib.hid (below_tr HB6.out hb7)) | (go_at_call 12; refine (HSCH2.out w7 HB7.out).mono ?_; rintro e w8 ⟨rfl, hb8⟩))
      go_ret
      exact ⟨rfl, HBW.out.trans (below_to (below_tr HB7.out hb8) HBW.out.size)⟩
end Go.Proofs.YtnplmembdfklcaaGreatDoor
