/-
  The document's pool is asked: New, IsInstalled, Named, Installed. Helper text; the conditions are those typed.
  The document's pool is asked: Installed. Helper text; the conditions are those typed.
-/
import Derived.Test.YtbdankpkdhhlmaaGreatRPoolB
import Derived.Test.YtbdankpkdhhlmaaGreatPartsA
namespace Go.Proofs.YtbdankpkdhhlmaaGreat
set_option linter.unusedVariables false
set_option linter.unusedSimpArgs false
open Go.RowKit Go.Maps

/-- New, of a kind that is. -/
theorem rnew_c (kd : Int) (hk : kd = 1 ∨ kd = 2) (B : Nat) (w : World) (hB : B ≤ w.heap.size) :
    Calls Tryz.prog 36 #[.int .i64 kd] w fun e w' => e = .returned (.tuple #[.pointer (some ⟨w.heap.size, 0, none⟩), .int .i64 0]) ∧ Below w.heap.size w w' ∧ MIn w' B (fun b => b < B) w.heap.size (.slice none 0 0) (.slice none 0 0) kd [] [] := by
  have HM : Hid (MIn (w.alloc (.cells #[.int .i64 kd, .slice none 0 0, .slice none 0 0] 37)) B (fun b => b < B) w.heap.size (.slice none 0 0) (.slice none 0 0) kd [] []) :=
    ⟨boxN_alloc _ _ _, ⟨[], World.ownsRow_nil _ _ _ _, fun k hk => absurd hk (Nat.not_lt_zero _)⟩, ⟨[], World.ownsRow_nil _ _ _ _, fun i k j h => by simp at h⟩, hB, fun _ h => h, by simp [Value.ownBlock], by simp [Value.ownBlock], fun b h => by simp [Value.ownBlock] at h⟩
  have HB : Hid (Below w.heap.size w (w.alloc (.cells #[.int .i64 kd, .slice none 0 0, .slice none 0 0] 37))) := below1 _ _
  go_enter Tryz.func36, Tryz.ntmps36
  rcases hk with rfl | rfl
  · go_wp2_with fail
    refine bodyPost_ret (v := .tuple #[.pointer (some ⟨w.heap.size, 0, none⟩), .int .i64 0]) (by simp [results, Tryz.results36, go_sem]) rfl ?_
    exact ⟨rfl, HB.out, HM.out⟩
  · go_wp2_with fail
    refine bodyPost_ret (v := .tuple #[.pointer (some ⟨w.heap.size, 0, none⟩), .int .i64 0]) (by simp [results, Tryz.results36, go_sem]) rfl ?_
    exact ⟨rfl, HB.out, HM.out⟩
/-- New, of none. -/
theorem rnew_no (kd : Int) (h1 : (kd != 1) = true) (h2 : (kd != 2) = true) (w : World) :
    Calls Tryz.prog 36 #[.int .i64 kd] w fun e w' => e = .returned (.tuple #[.pointer none, .int .i64 1]) ∧ w = w' := by
  go_enter Tryz.func36, Tryz.ntmps36
  go_wp2_with fail
  refine bodyPost_ret (v := .tuple #[.pointer none, .int .i64 1]) (by simp [results, Tryz.results36, go_sem]) rfl ?_
  exact ⟨rfl, rfl⟩

/-- The ids of a name among the first. -/
def idsK (ns : List ByteArray) (s : ByteArray) (i : Nat) : List Nat := (List.range i).filter fun x => decide (ns[x]? = some s)
theorem idsK_len (ns : List ByteArray) (s : ByteArray) (i : Nat) : (idsK ns s i).length ≤ i := by
  unfold idsK
  exact Nat.le_trans (List.length_filter_le _ _) (by simp)
theorem idsK_yes {ns : List ByteArray} {s : ByteArray} {i : Nat} (h : ns[i]? = some s) : idsK ns s (i + 1) = idsK ns s i ++ [i] := by
  unfold idsK
  rw [List.range_succ, List.filter_append, List.filter_cons, if_pos (decide_eq_true h)]
  rfl
theorem idsK_no {ns : List ByteArray} {s : ByteArray} {i : Nat} (h : ¬ ns[i]? = some s) : idsK ns s (i + 1) = idsK ns s i := by
  unfold idsK
  rw [List.range_succ, List.filter_append, List.filter_cons, if_neg (by rw [decide_eq_false h]; simp), List.filter_nil, List.append_nil]

theorem field_inst (s : ByteArray) (pr : Int) (x : Bool) (v : Value) (W : World) : (Instr.field 40 (.agg #[.string s, .int .i64 pr, .bool x, v]) 2).run Tryz.prog W = .ok (.bool x) W := by kernel_rfl
theorem field_name (s e a v : ByteArray) (x0 x1 x2 x3 x4 x5 x6 x7 : Value) (W : World) : (Instr.field 45 (.agg #[.string s, .string e, .string a, .string v, x0, x1, x2, x3, x4, x5, x6, x7]) 0).run Tryz.prog W = .ok (.string s) W := by kernel_rfl
section
variable {w : World} {B : Nat} {S : Nat → Prop} {Q : Nat} {vr va : Value} {kd : Int} {rl : List RepoT} {rs : List RepoH} {ks : List KeptT} {ats : List (Nat × Nat)}
set_option maxHeartbeats 1000000 in
set_option maxRecDepth 100000 in
/-- IsInstalled. -/
theorem risinst_c (h : MIn w B S Q vr va kd rl ats) (hb : Built rl rs ks ats) (hal : ats.length ≤ 200) (hrl : rl.length ≤ 8) {i : Nat} (hi : i < ks.length) :
    Calls Tryz.prog 69 #[.pointer (some ⟨Q, 0, none⟩), .int .i64 (i : Int)] w fun e w' => e = .returned (.bool (instB rs ks i)) ∧ Below w.heap.size w w' := by
  obtain ⟨k, j, h1, h2, hk, hj, h3⟩ := hb.at_ i hi
  have hrs := hb.head k hk
  have hkr : k < rs.length := by rw [hb.len.1]; exact hk
  have hins : instB rs ks i = rl[k].inst := by
    rw [instB_at hi (by omega)]
    have h4 : rs[k] = ⟨rl[k].name, rl[k].prio, rl[k].inst⟩ := by
      rw [List.getElem?_eq_getElem hkr] at hrs
      exact Option.some.inj hrs
    subst h2
    rw [h4]
  rw [hins]
  have HC := Lib.hid (rrepo_c h hal hrl h1 hk rfl)
  generalize rl[k].inst = x at HC ⊢
  clear h hb h1 h2 hj h3 hrs hins
  have hfl := field_inst
  go_enter Tryz.func69, Tryz.ntmps69
  go_wp2_with fail
  refine HC.out.mono ?_
  rintro e w2 ⟨⟨a, n, c, rfl⟩, hb2⟩
  go_wp2_with fail
  go_ret
  exact ⟨rfl, hb2⟩

set_option maxHeartbeats 4000000 in
set_option maxRecDepth 100000 in
/-- Named. -/
theorem rnamed_c (h : MIn w B S Q vr va kd rl ats) (hb : Built rl rs ks ats) (hal : ats.length ≤ 200) (hrl : rl.length ≤ 8) (nm : ByteArray) :
    Calls Tryz.prog 43 #[.pointer (some ⟨Q, 0, none⟩), .string nm] w fun e w' => (∃ v', e = .returned v' ∧ w'.ownsRow w.heap.size 3 1 v' (idsOf (ks.map fun k => k.pkg.name) nm).length (intsL (idsOf (ks.map fun k => k.pkg.name) nm))) ∧ Below w.heap.size w w' := by
  obtain ⟨ns, hns⟩ : ∃ ns, (ks.map fun k => k.pkg.name) = ns := ⟨_, rfl⟩
  have hnl : ns.length = ats.length := by rw [← hns, List.length_map, hb.len.2]
  have HPK : Hid (∀ W, Below w.heap.size w W → ∀ i, i < ats.length → ∃ p : PkgT, ns[i]? = some p.name ∧ Calls Tryz.prog 15 #[.pointer (some ⟨Q, 0, none⟩), .int .i64 (i : Int)] W fun e w' => (∃ (pa : Fin 7 → Option Addr) (pc : Fin 7 → Nat) (af : Option Addr) (nf cf : Nat), e = .returned (.agg #[.string p.name, .string p.evr, .string p.arch, .string p.vendor, .slice (pa 0) (p.n 0) (pc 0), .slice (pa 1) (p.n 1) (pc 1), .slice (pa 2) (p.n 2) (pc 2), .slice (pa 3) (p.n 3) (pc 3), .slice (pa 4) (p.n 4) (pc 4), .slice (pa 5) (p.n 5) (pc 5), .slice (pa 6) (p.n 6) (pc 6), .slice af nf cf])) ∧ Below W.heap.size W w') := by
    intro W hW i hi
    have hik : i < ks.length := by rw [hb.len.2]; exact hi
    obtain ⟨k, j, h1, h2, hk, hj, h3⟩ := hb.at_ i hik
    refine ⟨rl[k].pkgs[j], ?_, (rpackage_c (h.below hW) hal hrl h1 hk hj rfl).mono ?_⟩
    · rw [← hns, List.getElem?_map, List.getElem?_eq_getElem hik, h3]
      rfl
    · rintro e w' ⟨⟨pa, pc, af, nf, cf, he, _⟩, hb'⟩
      exact ⟨⟨pa, pc, af, nf, cf, he⟩, hb'⟩
  have HLN : Hid (∀ W, Below w.heap.size w W → Calls Tryz.prog 14 #[.pointer (some ⟨Q, 0, none⟩)] W fun e w' => e = .returned (.int .i64 (ats.length : Int)) ∧ W = w') := fun W hW => rlen_c (h.below hW)
  have HID : Hid (idsOf ns nm = idsK ns nm ats.length) := by
    unfold idsOf idsK
    rw [hnl]
    rfl
  rw [hns, HID.out]
  generalize ats.length = n at *
  clear hb hnl hns HID h
  obtain ⟨i3, hi3, hz30, hz31, hz32⟩ := info_parts info3
  have hfl := field_name
  go_enter Tryz.func43, Tryz.ntmps43
  go_wp2_with fail
  go_loopw [5, 6] (fun vo vi wr => ∃ i : Nat, vi = .int .i64 i ∧ i ≤ n ∧ Hid (Below w.heap.size w wr ∧ wr.ownsRow w.heap.size 3 1 vo (idsK ns nm i).length (intsL (idsK ns nm i)))) (fun _ vi _ => n - (intOf vi).toNat)
  case atStart => exact ⟨0, rfl, Nat.zero_le _, Below.refl _ _, World.ownsRow_nil _ _ _ _⟩
  case round =>
    obtain ⟨i, rfl, hin, HT⟩ := hrel
    have HL2 := Lib.hid (HLN.out wr HT.out.1)
    go_wp2_with fail
    refine HL2.out.mono ?_
    rintro e w2 ⟨rfl, hw2⟩
    subst hw2
    clear HL2
    by_cases hlt : i < n
    · have hi1 : (i : Int) < (n : Int) := by omega
      obtain ⟨p, hnp, hC⟩ := HPK.out wr HT.out.1 i hlt
      replace hnp := Lib.hid hnp
      replace hC := Lib.hid hC
      go_wp2_with fail
      refine hC.out.mono ?_
      rintro e w3 ⟨⟨pa, pc, af, nf, cf, rfl⟩, hb3⟩
      have HB3 : Hid (Below w.heap.size w w3) := below_tr HT.out.1 hb3
      have HO3 : Hid (w3.ownsRow w.heap.size 3 1 u5 (idsK ns nm i).length (intsL (idsK ns nm i))) := ownsRow_below HT.out.2 hb3
      clear hC hb3
      by_cases he : p.name = nm
      · have HSN : Hid (intsL (idsK ns nm (i + 1)) = intsL (idsK ns nm i) ++ [.int .i64 (i : Int)] ∧ (idsK ns nm (i + 1)).length = (idsK ns nm i).length + 1) := by
          rw [idsK_yes (by rw [hnp.out, he]), intsL_snoc, List.length_append]
          exact ⟨rfl, rfl⟩
        have hlo : (idsK ns nm i).length ≤ i := idsK_len _ _ _
        have HO := Lib.hid (ownsRow_below HO3.out (below1 w3 (.cells #[.int .i64 (i : Int)] 3)))
        obtain ⟨lo, hlo2⟩ : ∃ lo, (idsK ns nm i).length = lo := ⟨_, rfl⟩
        rw [hlo2] at HO HSN hlo
        clear hlo2
        have HSZ : Hid (w.heap.size ≤ w3.heap.size) := HB3.out.size
        clear hnp
        go_wp2_with (first | (at_builtin; refine wpList_append_own _ rfl (.tmp 19) (.tmp 21) 91 rfl w.heap.size 3 i3 (.int .i64 0) 1 8 Tryz.underlying91 hi3 hz30 hz31 hz32 rfl (by decide) u5 lo _ rfl HO.out ⟨w3.heap.size, 0, none⟩ 1 1 [.int .i64 (i : Int)] rfl rfl (World.news_of_block (cs := #[.int .i64 (i : Int)]) (t := 3) (fr := (0, 0)) (heap_alloc_new w3 _)) (by intro u hu; simp at hu; subst hu; rfl) (by unfold maxLen; omega) (by omega) (by have := HSZ.out; simp; omega) ?_; intro v' w10 hown10 hgrow10 _))
        have HX : Hid (Below w.heap.size w w10 ∧ w10.ownsRow w.heap.size 3 1 v' (idsK ns nm (i + 1)).length (intsL (idsK ns nm (i + 1)))) := by
          rw [HSN.out.1, HSN.out.2]
          have h1 := HSZ.out
          exact ⟨(below_tr HB3.out (below1 w3 (.cells #[.int .i64 (i : Int)] 3))).trans (grown_own HO.out (by simp; omega) hgrow10), hown10⟩
        clear hown10 hgrow10 HO HSN
        go_wp2_with fail
        go_roundw
        case rel => exact ⟨i + 1, by go_num, by omega, HX.out⟩
        case measure => simp [intOf]; omega
      · have HX : Hid (Below w.heap.size w w3 ∧ w3.ownsRow w.heap.size 3 1 u5 (idsK ns nm (i + 1)).length (intsL (idsK ns nm (i + 1)))) := by
          rw [idsK_no (by rw [hnp.out]; intro e; exact he (Option.some.inj e))]
          exact ⟨HB3.out, HO3.out⟩
        have he1 : (p.name.toList == nm.toList) = false := by rw [beqS]; exact decide_eq_false he
        clear hnp
        go_wp2_with fail
        go_roundw
        case rel => exact ⟨i + 1, by go_num, by omega, HX.out⟩
        case measure => simp [intOf]; omega
    · have hi1 : ¬ (i : Int) < (n : Int) := by omega
      obtain rfl : i = n := by omega
      go_wp2_with fail
      go_ret
      exact ⟨⟨_, rfl, HT.out.2⟩, HT.out.1⟩
end
end Go.Proofs.YtbdankpkdhhlmaaGreat
namespace Go.Proofs.YtbdankpkdhhlmaaGreat
set_option linter.unusedVariables false
set_option linter.unusedSimpArgs false
open Go.RowKit Go.Maps
section
variable {w : World} {B : Nat} {S : Nat → Prop} {Q : Nat} {vr va : Value} {kd : Int} {rl : List RepoT} {rs : List RepoH} {ks : List KeptT} {ats : List (Nat × Nat)}
set_option maxHeartbeats 4000000 in
set_option maxRecDepth 100000 in
/-- Installed. -/
theorem rinstalled_c (h : MIn w B S Q vr va kd rl ats) (hb : Built rl rs ks ats) (hal : ats.length ≤ 200) (hrl : rl.length ≤ 8) :
    Calls Tryz.prog 46 #[.pointer (some ⟨Q, 0, none⟩)] w fun e w' => (∃ v', e = .returned v' ∧ w'.ownsRow w.heap.size 3 1 v' (instOf rs ks ks.length).length (intsL (instOf rs ks ks.length))) ∧ Below w.heap.size w w' := by
  have HPK : Hid (∀ W, Below w.heap.size w W → ∀ i, i < ats.length → Calls Tryz.prog 69 #[.pointer (some ⟨Q, 0, none⟩), .int .i64 (i : Int)] W fun e w' => e = .returned (.bool (instB rs ks i)) ∧ Below W.heap.size W w') :=
    fun W hW i hi => risinst_c (h.below hW) hb hal hrl (by rw [hb.len.2]; exact hi)
  have HLN : Hid (∀ W, Below w.heap.size w W → Calls Tryz.prog 14 #[.pointer (some ⟨Q, 0, none⟩)] W fun e w' => e = .returned (.int .i64 (ats.length : Int)) ∧ W = w') := fun W hW => rlen_c (h.below hW)
  rw [hb.len.2]
  generalize ats.length = n at *
  clear hb h
  obtain ⟨i3, hi3, hz30, hz31, hz32⟩ := info_parts info3
  go_enter Tryz.func46, Tryz.ntmps46
  go_wp2_with fail
  go_loopw [3, 4] (fun vo vi wr => ∃ i : Nat, vi = .int .i64 i ∧ i ≤ n ∧ Hid (Below w.heap.size w wr ∧ wr.ownsRow w.heap.size 3 1 vo (instOf rs ks i).length (intsL (instOf rs ks i)))) (fun _ vi _ => n - (intOf vi).toNat)
  case atStart => exact ⟨0, rfl, Nat.zero_le _, Below.refl _ _, World.ownsRow_nil _ _ _ _⟩
  case round =>
    obtain ⟨i, rfl, hin, HT⟩ := hrel
    have HL2 := Lib.hid (HLN.out wr HT.out.1)
    go_wp2_with fail
    refine HL2.out.mono ?_
    rintro e w2 ⟨rfl, hw2⟩
    subst hw2
    clear HL2
    by_cases hlt : i < n
    · have hi1 : (i : Int) < (n : Int) := by omega
      have hC := Lib.hid (HPK.out wr HT.out.1 i hlt)
      obtain ⟨bi, hbi⟩ : ∃ bi, instB rs ks i = bi := ⟨_, rfl⟩
      rw [hbi] at hC
      have HBI := Lib.hid hbi
      clear hbi
      go_wp2_with fail
      refine hC.out.mono ?_
      rintro e w3 ⟨rfl, hb3⟩
      have HB3 : Hid (Below w.heap.size w w3) := below_tr HT.out.1 hb3
      have HO3 : Hid (w3.ownsRow w.heap.size 3 1 u3 (instOf rs ks i).length (intsL (instOf rs ks i))) := ownsRow_below HT.out.2 hb3
      clear hC hb3
      cases bi with
      | true =>
        have HSN : Hid (intsL (instOf rs ks (i + 1)) = intsL (instOf rs ks i) ++ [.int .i64 (i : Int)] ∧ (instOf rs ks (i + 1)).length = (instOf rs ks i).length + 1) := by
          rw [instOf_yes HBI.out, intsL_snoc, List.length_append]
          exact ⟨rfl, rfl⟩
        have hlo : (instOf rs ks i).length ≤ i := instOf_len _ _ _
        have HO := Lib.hid (ownsRow_below HO3.out (below1 w3 (.cells #[.int .i64 (i : Int)] 3)))
        obtain ⟨lo, hlo2⟩ : ∃ lo, (instOf rs ks i).length = lo := ⟨_, rfl⟩
        rw [hlo2] at HO HSN hlo
        clear hlo2
        have HSZ : Hid (w.heap.size ≤ w3.heap.size) := HB3.out.size
        go_wp2_with (at_builtin; refine wpList_append_own _ rfl (.tmp 16) (.tmp 18) 91 rfl w.heap.size 3 i3 (.int .i64 0) 1 8 Tryz.underlying91 hi3 hz30 hz31 hz32 rfl (by decide) u3 lo _ rfl HO.out ⟨w3.heap.size, 0, none⟩ 1 1 [.int .i64 (i : Int)] rfl rfl (World.news_of_block (cs := #[.int .i64 (i : Int)]) (t := 3) (fr := (0, 0)) (heap_alloc_new w3 _)) (by intro u hu; simp at hu; subst hu; rfl) (by unfold maxLen; omega) (by omega) (by have := HSZ.out; simp; omega) ?_; intro v' w10 hown10 hgrow10 _)
        have HX : Hid (Below w.heap.size w w10 ∧ w10.ownsRow w.heap.size 3 1 v' (instOf rs ks (i + 1)).length (intsL (instOf rs ks (i + 1)))) := by
          rw [HSN.out.1, HSN.out.2]
          have h1 := HSZ.out
          exact ⟨(below_tr HB3.out (below1 w3 (.cells #[.int .i64 (i : Int)] 3))).trans (grown_own HO.out (by simp; omega) hgrow10), hown10⟩
        clear hown10 hgrow10 HO HSN
        go_wp2_with fail
        go_roundw
        case rel => exact ⟨i + 1, by go_num, by omega, HX.out⟩
        case measure => simp [intOf]; omega
      | false =>
        have HX : Hid (Below w.heap.size w w3 ∧ w3.ownsRow w.heap.size 3 1 u3 (instOf rs ks (i + 1)).length (intsL (instOf rs ks (i + 1)))) := by
          rw [instOf_no HBI.out]
          exact ⟨HB3.out, HO3.out⟩
        go_wp2_with fail
        go_roundw
        case rel => exact ⟨i + 1, by go_num, by omega, HX.out⟩
        case measure => simp [intOf]; omega
    · have hi1 : ¬ (i : Int) < (n : Int) := by omega
      obtain rfl : i = n := by omega
      go_wp2_with fail
      go_ret
      exact ⟨⟨_, rfl, HT.out.2⟩, HT.out.1⟩
end
end Go.Proofs.YtbdankpkdhhlmaaGreat
