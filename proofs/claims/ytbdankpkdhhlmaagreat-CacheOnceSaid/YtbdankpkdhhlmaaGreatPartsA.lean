/-
  A pool is asked: Repos, Installed; the document's Has. Helper text; the conditions are those typed.
-/
import Derived.Test.YtbdankpkdhhlmaaGreatPkgA
import Derived.Deep.QuietTactic
import Derived.BigQuiet
import Derived.IntWalk
import Derived.Deep.Cut
import Derived.Deep.CutRange
namespace Go.Proofs.YtbdankpkdhhlmaaGreat
set_option linter.unusedVariables false
set_option linter.unusedSimpArgs false
open Go.RowKit Go.Maps

set_option maxRecDepth 100000 in
theorem cloneR_zero (a : Addr) (c : Nat) (w : World) : Calls Tryz.prog 54 #[.slice (some a) 0 c] w fun e w' => ∃ a' c', e = .returned (.slice a' 0 c') ∧ Below w.heap.size w w' ∧ w'.ownsRow w.heap.size 40 4 (.slice a' 0 c') 0 [] := by
  obtain ⟨i0, hi, hz0, hz1, hz2⟩ := info_parts info34
  have q22 : ∀ (w : World) (a : Option Addr) (n c n' c' : Nat), (binOp .eql 31 (.slice a n c) (.slice none n' c')).run Tryz.prog w = .ok (.bool a.isNone) w := fun w a n c n' c' => Lib.run_eql_slice_nil w _ _ a n c n' c' Tryz.underlying31
  go_enter Tryz.func54, Tryz.ntmps54
  go_wp2_with (at_builtin; refine wpList_append_own _ rfl _ _ 31 rfl w.heap.size 40 i0 _ 4 56 Tryz.underlying31 hi hz0 hz1 hz2 rfl (by decide) _ _ _ rfl (World.ownsRow_made w #[] 0 (Nat.le_refl _) (Nat.zero_le _) rfl) a 0 c [] rfl rfl (by intro j u hj; simp at hj) (by intro u hu; cases hu) (by unfold maxLen; omega) (by omega) (by simp) ?_)
  intro v' w1 hown hgrow hnil
  have hv : ∃ a' c', v' = .slice a' 0 c' := by
    rcases hown.2 with ⟨h, _⟩ | ⟨g, cap, cur, h, _⟩
    · exact ⟨none, 0, h⟩
    · exact ⟨_, cap, h⟩
  obtain ⟨a', c', rfl⟩ := hv
  go_wp2
  go_ret
  exact ⟨a', c', rfl, ((Below.refl _ w).alloc (Nat.le_refl _) _).grown hgrow (by simp) (by intro k hk; simp [Value.ownBlock] at hk; omega), hown⟩
noncomputable def repoI : TypeInfo := (Tryz.prog.info? 40).get (by kernel_rfl)
theorem repos_len : ∀ (rs : List RepoH), (rs.flatMap repoCells).length = rs.length * 4
  | [] => rfl
  | r :: rs => by
    rw [List.flatMap_cons, List.length_append, repos_len rs, List.length_cons, Nat.succ_mul, Nat.add_comm]
    rfl
theorem repos_get : ∀ (rs : List RepoH) (i : Nat) (h : i < rs.length) (r : Nat) (u : Value), (repoCells rs[i])[r]? = some u → (rs.flatMap repoCells)[i * 4 + r]? = some u
  | [], i, h, _, _, _ => absurd h (Nat.not_lt_zero _)
  | q :: rs, 0, h, r, u, hu => by
    have hr : r < 4 := (List.getElem?_eq_some_iff.1 hu).1
    rw [List.flatMap_cons, List.getElem?_append_left (by show _ < 4; omega), Nat.zero_mul, Nat.zero_add]
    exact hu
  | q :: rs, i + 1, h, r, u, hu => by
    rw [List.flatMap_cons, List.getElem?_append_right (by show 4 ≤ _; omega)]
    have : (i + 1) * 4 + r - (repoCells q).length = i * 4 + r := by
      show (i + 1) * 4 + r - 4 = _
      omega
    rw [this]
    exact repos_get rs i (by simpa using h) r u hu
theorem repoCells_one (rs : List RepoH) : ∀ u ∈ rs.flatMap repoCells, u.oneCell' = true := by
  intro u hu
  obtain ⟨r, _, hu⟩ := List.mem_flatMap.1 hu
  unfold repoCells at hu
  simp only [List.mem_cons, List.not_mem_nil, or_false] at hu
  rcases hu with rfl | rfl | rfl | rfl <;> rfl

section
variable {w : World} {B : Nat} {role : Nat → Role} {P M : Nat} {vr va : Value} {lv : ByteArray → Value} {kd : Int} {rs : List RepoH} {ks : List KeptT} {ns : List ByteArray}
theorem cloneR_c {B : Nat} (rs : List RepoH) (v : Value) (w : World) (h : w.ownsRow B 40 4 v rs.length (rs.flatMap repoCells)) (hn : rs.length ≤ 8) : ∃ a c, v = .slice a rs.length c ∧ Calls Tryz.prog 54 #[.slice a rs.length c] w fun e w' => (∃ a' c', e = .returned (.slice a' rs.length c') ∧ w'.ownsRow w.heap.size 40 4 (.slice a' rs.length c') rs.length (rs.flatMap repoCells)) ∧ Below w.heap.size w w' := by
  rcases ownsRow_form h with ⟨e, h0⟩ | ⟨g, c, e, _⟩
  · subst e
    have : rs = [] := List.eq_nil_of_length_eq_zero h0
    subst this
    refine ⟨none, 0, rfl, (AnyE.slices_Clone_nil Tryz.layCloneR 0 0 w).mono fun e w' ⟨he, hw⟩ => ?_⟩
    subst hw
    exact ⟨⟨none, 0, he, World.ownsRow_nil _ _ _ _⟩, Below.refl _ _⟩
  · subst e
    refine ⟨_, c, rfl, ?_⟩
    by_cases h0 : rs = []
    · subst h0
      refine (cloneR_zero ⟨g, 0, none⟩ c w).mono fun e w' ⟨a', c', he, hb, hown⟩ => ?_
      exact ⟨⟨a', c', he, hown⟩, hb⟩
    · have hpos : rs.length ≠ 0 := fun e => h0 (List.eq_nil_of_length_eq_zero e)
      refine (AnyE.slices_Clone Tryz.layCloneR repoI (.agg #[.string ⟨#[]⟩, .int .i64 0, .bool false, .slice none 0 0]) 4 56 (by kernel_rfl) (by kernel_rfl) (by kernel_rfl) (by kernel_rfl) rfl (by decide) Tryz.sizeOf40 g 0 rs.length c (rs.flatMap repoCells) w (repos_len rs) (by unfold maxLen; omega) (by omega) ?_ (repoCells_one rs)).mono ?_
      · intro j u hj
        rw [Nat.zero_add]
        exact ownsRow_cell h hj
      · rintro e w' ⟨v', he, hown, hnil, hb⟩
        rcases ownsRow_form hown with ⟨e2, h2⟩ | ⟨g', c', e2, _⟩
        · exact absurd h2 hpos
        · subst e2
          exact ⟨⟨_, c', he, hown⟩, hb⟩

/-- Repos. -/
theorem repos_c (h : PoolIn w B role P M vr va lv kd rs ks ns) (hn : rs.length ≤ 8) :
    Calls Tryz.prog 28 #[.pointer (some ⟨P, 0, none⟩)] w fun e w' => (∃ a' c', e = .returned (.slice a' rs.length c') ∧ w'.ownsRow w.heap.size 40 4 (.slice a' rs.length c') rs.length (rs.flatMap repoCells)) ∧ Below w.heap.size w w' := by
  obtain ⟨a, c, rfl, HC⟩ := cloneR_c rs vr w h.rrow hn
  have c1 := h.box.cell (j := 1) rfl
  replace HC := Lib.hid HC
  clear h
  obtain ⟨n, hn⟩ : ∃ n, rs.length = n := ⟨_, rfl⟩
  rw [hn] at HC c1 ⊢
  clear hn
  go_enter Tryz.func28, Tryz.ntmps28
  go_wp2_with fail
  refine HC.out.mono ?_
  rintro e w2 ⟨⟨a', c', rfl, h2⟩, hb2⟩
  replace h2 := Lib.hid h2
  replace hb2 := Lib.hid hb2
  go_wp2_with fail
  go_ret
  exact ⟨⟨a', c', rfl, h2.out⟩, hb2.out⟩
end

/-- Is the package of this number in the installed repository? -/
def instB (rs : List RepoH) (ks : List KeptT) (i : Nat) : Bool :=
  match ks[i]? with
  | some x => (match rs[x.at_]? with | some r => r.inst | none => false)
  | none => false
theorem instB_at {rs : List RepoH} {ks : List KeptT} {i : Nat} (h : i < ks.length) (hr : ks[i].at_ < rs.length) : instB rs ks i = rs[ks[i].at_].inst := by
  unfold instB
  rw [List.getElem?_eq_getElem h]
  show (match rs[ks[i].at_]? with | some r => r.inst | none => false) = _
  rw [List.getElem?_eq_getElem hr]
/-- The installed ones among the first. -/
def instOf (rs : List RepoH) (ks : List KeptT) (k : Nat) : List Nat := (List.range k).filter (instB rs ks)
theorem instOf_len (rs : List RepoH) (ks : List KeptT) (k : Nat) : (instOf rs ks k).length ≤ k := by
  unfold instOf
  exact Nat.le_trans (List.length_filter_le _ _) (by simp)
theorem instOf_yes {rs : List RepoH} {ks : List KeptT} {k : Nat} (h : instB rs ks k = true) : instOf rs ks (k + 1) = instOf rs ks k ++ [k] := by
  unfold instOf
  rw [List.range_succ, List.filter_append, List.filter_cons, if_pos h]
  rfl
theorem instOf_no {rs : List RepoH} {ks : List KeptT} {k : Nat} (h : instB rs ks k = false) : instOf rs ks (k + 1) = instOf rs ks k := by
  unfold instOf
  rw [List.range_succ, List.filter_append, List.filter_cons, if_neg (by rw [h]; simp), List.filter_nil, List.append_nil]
theorem grown_own {w w1 : World} {B : Nat} {e : TypeId} {k : Nat} {v : Value} {n : Nat} {xs : List Value} (h : w.ownsRow B e k v n xs) (hB : B ≤ w.heap.size) (hg : w.grownBy w1 v.ownBlock) : Below B w w1 :=
  ⟨hg.os, hg.tape, hg.output, hg.size, fun b hb => hg.block b (by omega) (fun e => by have := (h.lt b e.symm).1; omega)⟩

set_option maxHeartbeats 4000000 in
set_option maxRecDepth 100000 in
/-- Installed. -/
theorem installed_c {w : World} {B : Nat} {role : Nat → Role} {P M : Nat} {vr va : Value} {lv : ByteArray → Value} {kd : Int} {rs : List RepoH} {ks : List KeptT} {ns : List ByteArray} (h : PoolIn w B role P M vr va lv kd rs ks ns) (hks : ks.length ≤ 200) (hrs : rs.length ≤ 8) (hat : ∀ k ∈ ks, k.at_ < rs.length) :
    Calls Tryz.prog 45 #[.pointer (some ⟨P, 0, none⟩)] w fun e w' => (∃ v', e = .returned v' ∧ w'.ownsRow w.heap.size 3 1 v' (instOf rs ks ks.length).length (intsL (instOf rs ks ks.length))) ∧ Below w.heap.size w w' := by
  obtain ⟨n, hn⟩ : ∃ n, ks.length = n := ⟨_, rfl⟩
  obtain ⟨m, hm⟩ : ∃ m, rs.length = m := ⟨_, rfl⟩
  obtain ⟨ar, cr, rfl⟩ := h.rrow_form
  obtain ⟨av, cv, rfl⟩ := h.arow_form
  have HH := Lib.hid h
  rw [hn] at hks
  rw [hm] at hrs
  have HAT := Lib.hid hat
  have HN := Lib.hid hn
  have HM := Lib.hid hm
  have c2 := h.box.cell (j := 2) rfl
  rw [hn] at c2 ⊢
  clear h hat hn hm
  obtain ⟨i3, hi3, hz30, hz31, hz32⟩ := info_parts info3
  go_enter Tryz.func45, Tryz.ntmps45
  go_wp2_with fail
  clear c2
  go_loopw [3, 13] (fun vo vi wr => ∃ i : Nat, vi = .int .i64 i ∧ i ≤ n ∧ Hid (Below w.heap.size w wr ∧ wr.ownsRow w.heap.size 3 1 vo (instOf rs ks i).length (intsL (instOf rs ks i)))) (fun _ vi _ => n - (intOf vi).toNat)
  case atStart => exact ⟨0, rfl, Nat.zero_le _, Below.refl _ _, World.ownsRow_nil _ _ _ _⟩
  case round =>
    obtain ⟨i, rfl, hin, HT⟩ := hrel
    by_cases hlt : i < n
    · have hi0 : (0 : Int) ≤ (i : Int) := by omega
      have hi1 : (i : Int) < (n : Int) := by omega
      have hlen : i < ks.length := by have := HN.out; omega
      obtain ⟨A, cap, a, c, af, nf, cf, hva, hAlt, hAr, hpv, hcells⟩ := kept_at HH.out hlen
      have hatl := HAT.out ks[i] (List.getElem_mem hlen)
      have hkey := instB_at hlen hatl
      have hrc2 : (rs.flatMap repoCells)[ks[i].at_ * 4 + 2]? = some (.bool (instB rs ks i)) := by
        rw [hkey]
        exact repos_get rs ks[i].at_ hatl 2 _ rfl
      clear hkey hpv
      rw [HM.out] at hatl
      generalize ks[i].pkg = pk at hcells
      generalize ks[i].at_ = at_ at hcells hrc2 hatl
      injection hva with hv1 hv2 hv3
      subst hv1
      clear hv2 hv3
      obtain ⟨R, rfl⟩ : ∃ R, ar = some ⟨R, 0, none⟩ := by
        rcases ownsRow_form HH.out.rrow with ⟨e, h0⟩ | ⟨g, c, e, _⟩
        · have := HM.out
          omega
        · cases e; exact ⟨g, rfl⟩
      have HRC : Hid (w.cell? ⟨R, at_ * 4 + 2, none⟩ = some (.bool (instB rs ks i))) := ownsRow_cell HH.out.rrow hrc2
      obtain ⟨bi, hbi⟩ : ∃ bi, instB rs ks i = bi := ⟨_, rfl⟩
      rw [hbi] at HRC
      have HBI := Lib.hid hbi
      clear hbi hrc2
      have hcw : CellsAt wr A (i * 13) _ := hcells.keep (HT.out.1.block A hAlt)
      have hat0 : (0 : Int) ≤ (at_ : Int) := by omega
      have hat1 : (at_ : Int) < (m : Int) := by omega
      have q0 : wr.cell? ⟨A, i * 13, none⟩ = some (.string pk.name) := hcw 0 _ rfl
      have q1 : wr.cell? ⟨A, i * 13 + 1, none⟩ = some (.string pk.evr) := hcw 1 _ rfl
      have q2 : wr.cell? ⟨A, i * 13 + 2, none⟩ = some (.string pk.arch) := hcw 2 _ rfl
      have q3 : wr.cell? ⟨A, i * 13 + 3, none⟩ = some (.string pk.vendor) := hcw 3 _ rfl
      have q4 : wr.cell? ⟨A, i * 13 + 4, none⟩ = some (.slice (a 0) (pk.n 0) (c 0)) := hcw 4 _ rfl
      have q5 : wr.cell? ⟨A, i * 13 + 5, none⟩ = some (.slice (a 1) (pk.n 1) (c 1)) := hcw 5 _ rfl
      have q6 : wr.cell? ⟨A, i * 13 + 6, none⟩ = some (.slice (a 2) (pk.n 2) (c 2)) := hcw 6 _ rfl
      have q7 : wr.cell? ⟨A, i * 13 + 7, none⟩ = some (.slice (a 3) (pk.n 3) (c 3)) := hcw 7 _ rfl
      have q8 : wr.cell? ⟨A, i * 13 + 8, none⟩ = some (.slice (a 4) (pk.n 4) (c 4)) := hcw 8 _ rfl
      have q9 : wr.cell? ⟨A, i * 13 + 9, none⟩ = some (.slice (a 5) (pk.n 5) (c 5)) := hcw 9 _ rfl
      have q10 : wr.cell? ⟨A, i * 13 + 10, none⟩ = some (.slice (a 6) (pk.n 6) (c 6)) := hcw 10 _ rfl
      have q11 : wr.cell? ⟨A, i * 13 + 11, none⟩ = some (.slice af nf cf) := hcw 11 _ rfl
      have q12 : wr.cell? ⟨A, i * 13 + 12, none⟩ = some (.int .i64 (at_ : Int)) := hcw 12 _ rfl
      obtain ⟨w8, e8⟩ : ∃ w8, wr.alloc (.cells #[.string pk.name, .string pk.evr, .string pk.arch, .string pk.vendor, .slice (a 0) (pk.n 0) (c 0), .slice (a 1) (pk.n 1) (c 1), .slice (a 2) (pk.n 2) (c 2), .slice (a 3) (pk.n 3) (c 3), .slice (a 4) (pk.n 4) (c 4), .slice (a 5) (pk.n 5) (c 5), .slice (a 6) (pk.n 6) (c 6), .slice af nf cf, .int .i64 (at_ : Int)] 101) = w8 := ⟨_, rfl⟩
      have HB8 : Hid (Below w.heap.size w w8 ∧ BoxN w8 wr.heap.size [.string pk.name, .string pk.evr, .string pk.arch, .string pk.vendor, .slice (a 0) (pk.n 0) (c 0), .slice (a 1) (pk.n 1) (c 1), .slice (a 2) (pk.n 2) (c 2), .slice (a 3) (pk.n 3) (c 3), .slice (a 4) (pk.n 4) (c 4), .slice (a 5) (pk.n 5) (c 5), .slice (a 6) (pk.n 6) (c 6), .slice af nf cf, .int .i64 (at_ : Int)] 101 ∧ Below wr.heap.size wr w8) := by
        rw [← e8]
        exact ⟨below_tr HT.out.1 (below1 _ _), boxN_alloc _ _ _, below1 _ _⟩
      have x12 := HB8.out.2.1.cell (j := 12) rfl
      have c1 : w8.cell? ⟨P, 1, none⟩ = some (.slice (some ⟨R, 0, none⟩) m cr) := by
        have h1 := (HH.out.below HB8.out.1).box.cell (j := 1) rfl
        rwa [HM.out] at h1
      have r2 : w8.cell? ⟨R, at_ * 4 + 2, none⟩ = some (.bool bi) := cell_tr HB8.out.1 HRC.out
      clear hcells hcw
      go_upto_region 7 with fail
      go_cut [26] from 18 to 26 (fun t26 wx => t26 = .bool bi ∧ Hid (Below wr.heap.size wr wx))
      case first =>
        go_quiet (fail)
        go_wp2_with fail
        go_meet
        exact ⟨rfl, below_dr HB8.out.2.2 nq⟩
      case rest =>
        obtain ⟨rfl, HBC⟩ := hcut
        clear q0 q1 q2 q3 q4 q5 q6 q7 q8 q9 q10 q11 q12 x12 c1 r2 e8 HRC HB8
        cases bi with
        | false =>
          have HX : Hid (Below w.heap.size w wc ∧ wc.ownsRow w.heap.size 3 1 u3 (instOf rs ks (i + 1)).length (intsL (instOf rs ks (i + 1)))) := by
            rw [instOf_no HBI.out]
            exact ⟨below_tr HT.out.1 HBC.out, ownsRow_below HT.out.2 HBC.out⟩
          go_wp2_with fail
          go_roundw
          case rel => exact ⟨i + 1, by go_num, by omega, HX.out⟩
          case measure => simp [intOf]; omega
        | true =>
          have hlo : (instOf rs ks i).length ≤ i := instOf_len _ _ _
          have HO := Lib.hid (ownsRow_below HT.out.2 (below_tr HBC.out (below1 wc (.cells #[.int .i64 (i : Int)] 3))))
          have HSN : Hid (intsL (instOf rs ks (i + 1)) = intsL (instOf rs ks i) ++ [.int .i64 (i : Int)] ∧ (instOf rs ks (i + 1)).length = (instOf rs ks i).length + 1) := by
            rw [instOf_yes HBI.out, intsL_snoc, List.length_append]
            exact ⟨rfl, rfl⟩
          obtain ⟨lo, hlo2⟩ : ∃ lo, (instOf rs ks i).length = lo := ⟨_, rfl⟩
          rw [hlo2] at HO HSN hlo
          clear hlo2
          go_wp2_with (at_builtin; refine wpList_append_own _ rfl (.tmp 27) (.tmp 29) 91 rfl w.heap.size 3 i3 (.int .i64 0) 1 8 Tryz.underlying91 hi3 hz30 hz31 hz32 rfl (by decide) u3 lo _ rfl HO.out ⟨wc.heap.size, 0, none⟩ 1 1 [.int .i64 (i : Int)] rfl rfl (World.news_of_block (cs := #[.int .i64 (i : Int)]) (t := 3) (fr := (0, 0)) (heap_alloc_new wc _)) (by intro u hu; simp at hu; subst hu; rfl) (by unfold maxLen; omega) (by omega) (by have h1 := HT.out.1.size; have h2 := HBC.out.size; simp; omega) ?_; intro v' w10 hown10 hgrow10 _)
          have HX : Hid (Below w.heap.size w w10 ∧ w10.ownsRow w.heap.size 3 1 v' (instOf rs ks (i + 1)).length (intsL (instOf rs ks (i + 1)))) := by
            rw [HSN.out.1, HSN.out.2]
            have h1 := HT.out.1.size
            have h2 := HBC.out.size
            exact ⟨(below_tr HT.out.1 (below_tr HBC.out (below1 wc (.cells #[.int .i64 (i : Int)] 3)))).trans (grown_own HO.out (by simp; omega) hgrow10), hown10⟩
          clear hown10 hgrow10 HO HSN
          go_wp2_with fail
          go_roundw
          case rel => exact ⟨i + 1, by go_num, by omega, HX.out⟩
          case measure => simp [intOf]; omega
    · have hi1 : ¬ (i : Int) < (n : Int) := by omega
      have hie : i = n := by omega
      subst hie
      go_wp2_with fail
      go_ret
      exact ⟨⟨_, rfl, HT.out.2⟩, HT.out.1⟩
end Go.Proofs.YtbdankpkdhhlmaaGreat
