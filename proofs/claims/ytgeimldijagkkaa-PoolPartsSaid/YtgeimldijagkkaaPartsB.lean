/-
  The walk of PoolParts. Helper text; the conditions are those typed.
-/
import Derived.Test.YtgeimldijagkkaaStaysB
namespace Go.Proofs.Ytgeimldijagkkaa
set_option linter.unusedVariables false
set_option linter.unusedSimpArgs false
open Go.RowKit Go.Maps

theorem cell_heap {W W' : World} (h : W'.heap = W.heap) (p : Addr) : W'.cell? p = W.cell? p := by
  unfold World.cell?
  rw [h]
/-- Installed, and what Has says of it. -/
theorem inst_at {W : World} {B : Nat} {role : Nat → Role} {P M : Nat} {kd : Int} {rs : List RepoH} {ks : List KeptT} (h : PoolAt W B role P M kd rs ks) :
    Calls Try.prog 19 #[.pointer (some ⟨P, 0, none⟩)] W fun e w' => (∃ a k c, e = .returned (.slice a k c) ∧ ∀ W' : World, W'.heap = w'.heap → ∀ i : Nat, i < ks.length → Calls Try.prog 18 #[.slice a k c, .int .i64 (i : Int)] W' fun e w'' => e = .returned (.bool (instB rs ks i)) ∧ W' = w'') ∧ Below W.heap.size W w' := by
  obtain ⟨⟨vr, va, lv, h1⟩, h2⟩ := h
  refine (installed_c h1 h2.2.1 h2.1 (fun k hk => (h2.2.2 k hk).2.2)).mono ?_
  rintro e w' ⟨⟨v', he, hown⟩, hb⟩
  obtain ⟨a, c, rfl⟩ : ∃ a c, v' = .slice a (instOf rs ks ks.length).length c := by
    rcases ownsRow_form hown with ⟨e, h0⟩ | ⟨g, c, e, _⟩
    · exact ⟨none, 0, by rw [e, h0]⟩
    · exact ⟨_, c, e⟩
  refine ⟨⟨a, _, c, he, fun W' hW i hi => ?_⟩, hb⟩
  have hl := instOf_len rs ks ks.length
  have h3 := h2.2.1
  have := has_c (instOf rs ks ks.length) a _ c i W' rfl (by omega) (fun hn => by
    rcases ownsRow_form hown with ⟨e, h0⟩ | ⟨g, c, e, _⟩
    · omega
    · injection e with e1 e2 e3
      subst e1 e3
      refine ⟨g, rfl, fun j hj => ?_⟩
      rw [cell_heap hW]
      refine ownsRow_cell hown ?_
      unfold intsL
      rw [List.getElem?_map, List.getElem?_eq_getElem hj]
      rfl)
  have e : decide (i ∈ instOf rs ks ks.length) = instB rs ks i := by
    unfold instOf
    simp [List.mem_filter, hi]
  rwa [e] at this
/-- Has a package that name? -/
def nmB (ks : List KeptT) (s : ByteArray) (i : Nat) : Bool := decide ((ks.map fun k => k.pkg.name)[i]? = some s)
theorem named_at {W : World} {B : Nat} {role : Nat → Role} {P M : Nat} {kd : Int} {rs : List RepoH} {ks : List KeptT} (h : PoolAt W B role P M kd rs ks) (s : ByteArray) (hs : s.size ≤ maxLen) :
    Calls Try.prog 20 #[.pointer (some ⟨P, 0, none⟩), .string s] W fun e w' => (∃ a k c, e = .returned (.slice a k c) ∧ ∀ W' : World, W'.heap = w'.heap → ∀ i : Nat, Calls Try.prog 18 #[.slice a k c, .int .i64 (i : Int)] W' fun e w'' => e = .returned (.bool (nmB ks s i)) ∧ W' = w'') ∧ Below W.heap.size W w' := by
  obtain ⟨⟨vr, va, lv, h1⟩, h2⟩ := h
  have h3 := h2.2.1
  refine (named_c h1 (by simpa using h3) s hs).mono ?_
  rintro e w' ⟨⟨a, c, he, hown⟩, hb⟩
  refine ⟨⟨a, _, c, he, fun W' hW i => ?_⟩, hb⟩
  have hl := idsOf_len (ks.map fun k => k.pkg.name) s
  rw [List.length_map] at hl
  have := has_c (idsOf (ks.map fun k => k.pkg.name) s) a _ c i W' rfl (by omega) (fun hn => by
    rcases ownsRow_form hown with ⟨e, h0⟩ | ⟨g, c, e, _⟩
    · omega
    · injection e with e1 e2 e3
      subst e1 e3
      refine ⟨g, rfl, fun j hj => ?_⟩
      rw [cell_heap hW]
      refine ownsRow_cell hown ?_
      unfold intsL
      rw [List.getElem?_map, List.getElem?_eq_getElem hj]
      rfl)
  have e : decide (i ∈ idsOf (ks.map fun k => k.pkg.name) s) = nmB ks s i := by
    unfold nmB
    exact decide_eq_decide.2 mem_idsOf
  rwa [e] at this
theorem repos_at2 {W : World} {B : Nat} {role : Nat → Role} {P M : Nat} {kd : Int} {rs : List RepoH} {ks : List KeptT} (h : PoolAt W B role P M kd rs ks) :
    Calls Try.prog 17 #[.pointer (some ⟨P, 0, none⟩)] W fun e w' => (∃ a' c', e = .returned (.slice a' rs.length c') ∧ w'.ownsRow W.heap.size 34 4 (.slice a' rs.length c') rs.length (rs.flatMap repoCells)) ∧ Below W.heap.size W w' := by
  obtain ⟨⟨vr, va, lv, h1⟩, h2⟩ := h
  exact repos_c h1 h2.1

/-- A walk's state: a world over the first one, the pool. -/
structure Sp (w : World) (P M : Nat) (kd : Int) (W : World) (role : Nat → Role) (rs : List RepoH) (ks : List KeptT) : Prop where
  blw : Below w.heap.size w W
  pool : PoolAt W w.heap.size role P M kd rs ks
theorem Sp.below {w : World} {P M : Nat} {kd : Int} {W W' : World} {role : Nat → Role} {rs : List RepoH} {ks : List KeptT} (h : Sp w P M kd W role rs ks) (hb : Below W.heap.size W W') : Sp w P M kd W' role rs ks :=
  ⟨below_tr h.blw hb, h.pool.below hb⟩
theorem Sp.moved {w : World} {P M : Nat} {kd : Int} {W W' : World} {role role' : Nat → Role} {rs rs' : List RepoH} {ks ks' : List KeptT} (h : Sp w P M kd W role rs ks) (hm : Moved role W role' W') (hp : PoolAt W' w.heap.size role' P M kd rs' ks') : Sp w P M kd W' role' rs' ks' :=
  ⟨⟨hm.os.trans h.blw.os, hm.tape.trans h.blw.tape, hm.output.trans h.blw.output, Nat.le_trans h.blw.size hm.size, fun b hb =>
    (hm.block b (Nat.lt_of_lt_of_le hb h.blw.size) (h.pool.free (.inr hb))).1.trans (h.blw.block b hb)⟩, hp⟩
theorem Sp.old {w : World} {P M : Nat} {kd : Int} {W : World} {role : Nat → Role} {rs : List RepoH} {ks : List KeptT} (h : Sp w P M kd W role rs ks) : ∀ b, b < w.heap.size → role b = .free ∧ b < W.heap.size :=
  fun b hb => ⟨h.pool.free (.inr hb), Nat.lt_of_lt_of_le hb h.blw.size⟩

set_option maxHeartbeats 8000000 in
set_option maxRecDepth 100000 in
theorem poolParts_walk (HA : Hid AwakeC) (l : List RepoT) (al : Option Addr) (nl cl : Nat) (w : World) (hl : ReposV w (· < w.heap.size) l (.slice al nl cl)) (hf : ∀ r ∈ l, ∀ p ∈ r.pkgs, Fits p) (hnl : nl ≤ 9223372036854775807) :
    Calls Try.prog 6 #[.slice al nl cl] w fun e w' => e = .returned (.bool true) ∧ Below w.heap.size w w' := by
  obtain ⟨hln, hli⟩ := repos_at hl
  have HLN := Lib.hid hln
  have HLI := Lib.hid hli
  have HF := Lib.hid hf
  clear hln hli hf hl
  go_enter Try.func6, Try.ntmps6
  go_wp2_with fail
  refine (HA.out w).mono ?_
  rintro e w2 ⟨rfl, hb2⟩
  replace hb2 := Lib.hid hb2
  have HN := Lib.hid (new_c 1 (.inl rfl) w.heap.size w2 hb2.out.size)
  go_wp2_with fail
  refine HN.out.mono ?_
  rintro e w3 ⟨rfl, hb3, hp3⟩
  obtain ⟨P, eP⟩ : ∃ P, w2.heap.size + 1 = P := ⟨_, rfl⟩
  obtain ⟨M, eM⟩ : ∃ M, w2.heap.size = M := ⟨_, rfl⟩
  have HS3 : Hid (∃ role, Sp w P M 1 w3 role [] []) := by
    exact ⟨_, below_tr hb2.out hb3, ⟨_, _, _, by rw [← eP, ← eM]; exact hp3⟩, PoolOK.nil⟩
  rw [eP]
  clear hb3 hp3 HN hb2 eP eM
  clear w2
  go_wp2_with fail
  go_loopw [6] (fun vi wr => ∃ i : Nat, vi = .int .i64 i ∧ i ≤ nl ∧ Hid (∃ role rs ks, Sp w P M 1 wr role rs ks)) (fun vi _ => nl - (intOf vi).toNat)
  case atStart =>
    obtain ⟨role, h⟩ := HS3.out
    exact ⟨0, rfl, Nat.zero_le _, role, _, _, h⟩
  case round =>
    obtain ⟨i, rfl, hin, HT0⟩ := hrel
    obtain ⟨role, rs, ks, hT⟩ := HT0.out
    have HT := Lib.hid hT
    clear HT0 hT HS3
    by_cases hlt : i < nl
    · have hi1 : (i : Int) < (nl : Int) := by omega
      have hlen : i < l.length := by have := HLN.out; omega
      obtain ⟨b, off, rfl, hSb, hi⟩ := HLI.out (by omega)
      obtain ⟨aq, nq, cq, hpk, hcells⟩ := hi i hlen
      have hfr := HF.out l[i] (List.getElem_mem hlen)
      clear hi
      generalize l[i] = r at hpk hcells hfr
      have hcw : CellsAt wr b (off + i * 4) _ := hcells.keep (HT.out.blw.block b hSb)
      have q0 : wr.cell? ⟨b, off + i * 4, none⟩ = some _ := hcw 0 _ rfl
      have q1 : wr.cell? ⟨b, off + i * 4 + 1, none⟩ = some _ := hcw 1 _ rfl
      have q2 : wr.cell? ⟨b, off + i * 4 + 2, none⟩ = some _ := hcw 2 _ rfl
      have q3 : wr.cell? ⟨b, off + i * 4 + 3, none⟩ = some _ := hcw 3 _ rfl
      have HAD : Hid (Calls Try.prog 14 #[.pointer (some ⟨P, 0, none⟩), .agg #[.string r.name, .int .i64 r.prio, .bool r.inst, .slice aq nq cq]] wr fun e w' => (∃ q : Int, e = .returned (.int .i64 q)) ∧ ∃ role' rs' ks', Sp w P M 1 w' role' rs' ks') := by
        refine (add_at HT.out.pool HT.out.blw.size r aq nq cq (· < w.heap.size) (hpk.below HT.out.blw) HT.out.old hfr).mono ?_
        rintro e w' ⟨he, role', hm', hp'⟩
        exact ⟨⟨_, he⟩, role', _, _, HT.out.moved hm' hp'⟩
      clear hpk hcells hcw hfr
      go_wp2_with fail
      refine HAD.out.mono ?_
      rintro e w4 ⟨⟨q, rfl⟩, HT4⟩
      replace HT4 := Lib.hid HT4
      clear q0 q1 q2 q3 HAD HT
      go_wp2_with fail
      go_roundw
      case rel => exact ⟨i + 1, by go_num, by omega, HT4.out⟩
      case measure => simp [intOf]; omega
    · have hi1 : ¬ (i : Int) < (nl : Int) := by omega
      clear HLI HLN HF hlt
      obtain ⟨wL, rfl⟩ : ∃ wL : World, wL = wr := ⟨_, rfl⟩
      have HRE := Lib.hid (repos_at2 HT.out.pool)
      obtain ⟨m, hm⟩ : ∃ m, rs.length = m := ⟨_, rfl⟩
      have HM := Lib.hid hm
      rw [hm] at HRE
      have hm8 : m ≤ 8 := by rw [← hm]; exact HT.out.pool.2.1
      clear hm
      go_wp2_with fail
      refine HRE.out.mono ?_
      rintro e wS ⟨⟨aR, cR, rfl, hownR⟩, hbS⟩
      have HTS := Lib.hid (HT.out.below hbS)
      have HOR := Lib.hid hownR
      clear hbS hownR HRE HT
      obtain ⟨n, hn⟩ : ∃ n, ks.length = n := ⟨_, rfl⟩
      have HKN := Lib.hid hn
      have hn200 : n ≤ 200 := by rw [← hn]; exact HTS.out.pool.2.2.1
      clear hn
      have HLEN : Hid (∀ W, Below wS.heap.size wS W → Calls Try.prog 15 #[.pointer (some ⟨P, 0, none⟩)] W fun e w' => e = .returned (.int .i64 (n : Int)) ∧ W = w') := fun W hb => by
        have := len_at (HTS.out.pool.below hb)
        rwa [HKN.out] at this
      go_wp2_with fail
      go_loopw [8] (fun vi wr => ∃ i : Nat, vi = .int .i64 i ∧ i ≤ n ∧ Hid (Below wS.heap.size wS wr)) (fun vi _ => n - (intOf vi).toNat)
      case atStart => exact ⟨0, rfl, Nat.zero_le _, Below.refl _ _⟩
      case round =>
        obtain ⟨i, rfl, hin2, HW⟩ := hrel
        go_wp2_with fail
        refine (HLEN.out wr HW.out).mono ?_
        rintro e wy ⟨rfl, rfl⟩
        by_cases hlt2 : i < n
        · have hi2 : (i : Int) < (n : Int) := by omega
          have hlen : i < ks.length := by have := HKN.out; omega
          obtain ⟨pk, hpk⟩ : ∃ pk, ks[i].pkg = pk := ⟨_, rfl⟩
          obtain ⟨at_, hat⟩ : ∃ at_, ks[i].at_ = at_ := ⟨_, rfl⟩
          have HPK := Lib.hid (package_at (HTS.out.pool.below HW.out) hlen hpk hat)
          have hgood := HTS.out.pool.2.2.2 ks[i] (List.getElem_mem hlen)
          have hinst := instB_at hlen hgood.2.2
          have hnmk : ∀ s, nmB ks s i = decide (pk.name = s) := fun s => by
            unfold nmB
            rw [List.getElem?_map, List.getElem?_eq_getElem hlen, Option.map_some, hpk]
            simp
          have hatm : at_ < m := by
            have := hgood.2.2
            rw [hat, HM.out] at this
            exact this
          have hat0 : (0 : Int) ≤ (at_ : Int) := by omega
          have hat1 : (at_ : Int) < (m : Int) := by omega
          have hat2 : ¬ (at_ : Int) < 0 := by omega
          have hat3 : ¬ (m : Int) ≤ (at_ : Int) := by omega
          have HCK : Hid (pkgCheck pk = 0) := by
            rw [← hpk]
            exact hgood.1
          have HNM : Hid (pk.name.size ≤ maxLen) := by
            have h1 := hgood.2.1.1
            rw [hpk] at h1
            exact Nat.le_trans h1 (by decide)
          obtain ⟨gR, rfl⟩ : ∃ gR, aR = some ⟨gR, 0, none⟩ := by
            rcases ownsRow_form HOR.out with ⟨e, h0⟩ | ⟨g, c, e, _⟩
            · omega
            · cases e; exact ⟨g, rfl⟩
          have HRC : Hid (wS.cell? ⟨gR, at_ * 4 + 2, none⟩ = some (.bool (instB rs ks i))) := by
            refine ownsRow_cell HOR.out ?_
            rw [hinst, ← hat]
            exact repos_get rs ks[i].at_ hgood.2.2 2 _ rfl
          obtain ⟨bi, hbi⟩ : ∃ bi, instB rs ks i = bi := ⟨_, rfl⟩
          rw [hbi] at HRC
          have HBI := Lib.hid hbi
          have HNK := Lib.hid hnmk
          clear hbi hinst hgood hat hpk hnmk
          go_wp2_with fail
          refine HPK.out.mono ?_
          rintro e wz ⟨⟨a', c', af', nf, cf', rfl, hv⟩, hbz⟩
          have HBZ : Hid (Below wS.heap.size wS wz ∧ PkgV wz (fun b => b < wz.heap.size) pk (fun i => .slice (a' i) (pk.n i) (c' i)) (.slice af' nf cf')) := ⟨below_tr HW.out hbz, hv.inn.keep (fun b hb => hb.2) (fun b _ _ => rfl)⟩
          clear hv hbz HPK
          obtain ⟨w8, e8⟩ : ∃ w8, wz.alloc (.cells #[.string pk.name, .string pk.evr, .string pk.arch, .string pk.vendor, .slice (a' 0) (pk.n 0) (c' 0), .slice (a' 1) (pk.n 1) (c' 1), .slice (a' 2) (pk.n 2) (c' 2), .slice (a' 3) (pk.n 3) (c' 3), .slice (a' 4) (pk.n 4) (c' 4), .slice (a' 5) (pk.n 5) (c' 5), .slice (a' 6) (pk.n 6) (c' 6), .slice af' nf cf'] 26) = w8 := ⟨_, rfl⟩
          have HB8 : Hid (Below wz.heap.size wz w8 ∧ BoxN w8 wz.heap.size [.string pk.name, .string pk.evr, .string pk.arch, .string pk.vendor, .slice (a' 0) (pk.n 0) (c' 0), .slice (a' 1) (pk.n 1) (c' 1), .slice (a' 2) (pk.n 2) (c' 2), .slice (a' 3) (pk.n 3) (c' 3), .slice (a' 4) (pk.n 4) (c' 4), .slice (a' 5) (pk.n 5) (c' 5), .slice (a' 6) (pk.n 6) (c' 6), .slice af' nf cf'] 26) := by
            rw [← e8]
            exact ⟨below1 _ _, boxN_alloc _ _ _⟩
          have z0 := HB8.out.2.cell (j := 0) rfl
          have z1 := HB8.out.2.cell (j := 1) rfl
          have z2 := HB8.out.2.cell (j := 2) rfl
          have z3 := HB8.out.2.cell (j := 3) rfl
          have z4 := HB8.out.2.cell (j := 4) rfl
          have z5 := HB8.out.2.cell (j := 5) rfl
          have z6 := HB8.out.2.cell (j := 6) rfl
          have z7 := HB8.out.2.cell (j := 7) rfl
          have z8 := HB8.out.2.cell (j := 8) rfl
          have z9 := HB8.out.2.cell (j := 9) rfl
          have z10 := HB8.out.2.cell (j := 10) rfl
          have z11 := HB8.out.2.cell (j := 11) rfl
          have HCH : Hid (Calls Try.prog 9 #[.agg #[.string pk.name, .string pk.evr, .string pk.arch, .string pk.vendor, .slice (a' 0) (pk.n 0) (c' 0), .slice (a' 1) (pk.n 1) (c' 1), .slice (a' 2) (pk.n 2) (c' 2), .slice (a' 3) (pk.n 3) (c' 3), .slice (a' 4) (pk.n 4) (c' 4), .slice (a' 5) (pk.n 5) (c' 5), .slice (a' 6) (pk.n 6) (c' 6), .slice af' nf cf']] w8 fun e w' => e = .returned (.int .i64 0) ∧ Below w8.heap.size w8 w') := by
            have h1 := check_c pk a' c' af' nf cf' _ w8 (HBZ.out.2.below HB8.out.1) (fun b hb => Nat.lt_of_lt_of_le hb HB8.out.1.size)
            rwa [HCK.out] at h1
          go_wp2_with fail
          refine HCH.out.mono ?_
          rintro e w9 ⟨rfl, hb9⟩
          have HB9 : Hid (Below wS.heap.size wS w9 ∧ BoxN w9 wz.heap.size [.string pk.name, .string pk.evr, .string pk.arch, .string pk.vendor, .slice (a' 0) (pk.n 0) (c' 0), .slice (a' 1) (pk.n 1) (c' 1), .slice (a' 2) (pk.n 2) (c' 2), .slice (a' 3) (pk.n 3) (c' 3), .slice (a' 4) (pk.n 4) (c' 4), .slice (a' 5) (pk.n 5) (c' 5), .slice (a' 6) (pk.n 6) (c' 6), .slice af' nf cf'] 26) := ⟨below_tr HBZ.out.1 (below_tr HB8.out.1 hb9), HB8.out.2.below hb9⟩
          clear hb9 e8 z0 z1 z2 z3 z4 z5 z6 z7 z8 z9 z10 z11 HCH HB8 HBZ
          have HIN : Hid (∀ W, Below w9.heap.size w9 W → Calls Try.prog 19 #[.pointer (some ⟨P, 0, none⟩)] W fun e w' => (∃ a k c, e = .returned (.slice a k c) ∧ ∀ W' : World, W'.heap = w'.heap → Calls Try.prog 18 #[.slice a k c, .int .i64 (i : Int)] W' fun e w'' => e = .returned (.bool bi) ∧ W' = w'') ∧ Below W.heap.size W w') := fun W hb => by
            refine (inst_at (HTS.out.pool.below (below_tr HB9.out.1 hb))).mono ?_
            rintro e w' ⟨⟨a, k, c, he, hh⟩, hb'⟩
            refine ⟨⟨a, k, c, he, fun W' hW => ?_⟩, hb'⟩
            have h1 := hh W' hW i (by have := HKN.out; omega)
            rwa [HBI.out] at h1
          have HRK : Hid (∀ W, Below w9.heap.size w9 W → W.cell? ⟨gR, at_ * 4 + 2, none⟩ = some (.bool bi)) := fun W hb => cell_tr (below_tr HB9.out.1 hb) HRC.out
          have r2 := HRK.out w9 (Below.refl _ _)
          have hbr0 : Below w9.heap.size w9 w9.drew := below_dr1 (Below.refl _ _)
          go_upto_region 16 with fail
          go_cut [84] from 45 to 109 (fun t84 wx => t84 = .bool false ∧ Hid (Below w9.heap.size w9 wx))
          case first =>
            go_region_held3 (fun W => W.cell? ⟨gR, at_ * 4 + 2, none⟩ = some (.bool bi))
              (exact HRK.out _ (by assumption))
              (first
                | (go_at_call 19; refine (HIN.out _ (by assumption)).mono ?_; rintro e wa ⟨⟨ai, ki, ci, rfl, hhas⟩, hba⟩; have hbb := below_tr (show Below w9.heap.size w9 _ by assumption) hba; clear hba; replace hhas := Lib.hid hhas)
                | (go_at_call 18; refine (hhas.out _ (by rfl)).mono ?_; rintro e wb ⟨rfl, rfl⟩))
            all_goals
              have HX : Hid (Below w9.heap.size w9 _) := (show Below w9.heap.size w9 _ by assumption)
              clear r2
              go_wp2_with fail
              go_meet
              exact ⟨rfl, HX.out⟩
          case rest =>
            obtain ⟨rfl, HBC⟩ := hcut
            obtain ⟨wQ, rfl⟩ : ∃ wQ : World, wQ = wc := ⟨_, rfl⟩
            obtain ⟨wP, rfl⟩ : ∃ wP : World, wP = wr := ⟨_, rfl⟩
            have HBW : Hid (Below wS.heap.size wS wQ ∧ BoxN wQ wz.heap.size [.string pk.name, .string pk.evr, .string pk.arch, .string pk.vendor, .slice (a' 0) (pk.n 0) (c' 0), .slice (a' 1) (pk.n 1) (c' 1), .slice (a' 2) (pk.n 2) (c' 2), .slice (a' 3) (pk.n 3) (c' 3), .slice (a' 4) (pk.n 4) (c' 4), .slice (a' 5) (pk.n 5) (c' 5), .slice (a' 6) (pk.n 6) (c' 6), .slice af' nf cf'] 26) := ⟨below_tr HB9.out.1 HBC.out, HB9.out.2.below HBC.out⟩
            clear HIN HRK r2 hbr0 HBC HB9
            generalize wz.heap.size = X at HBW ⊢
            clear wz HRC
            go_wp2_with fail
            go_loopw [12] (fun vi wr => ∃ k : Nat, vi = .int .i64 k ∧ k ≤ n ∧ Hid (Below wQ.heap.size wQ wr)) (fun vi _ => n - (intOf vi).toNat)
            case atStart => exact ⟨0, rfl, Nat.zero_le _, Below.refl _ _⟩
            case round =>
              obtain ⟨k, rfl, hkn, HV⟩ := hrel
              have HSV : Hid (Below wS.heap.size wS wr) := below_tr HBW.out.1 HV.out
              go_wp2_with fail
              refine (HLEN.out wr HSV.out).mono ?_
              rintro e wy ⟨rfl, rfl⟩
              by_cases hlt3 : k < n
              · have hi3 : (k : Int) < (n : Int) := by omega
                have hlen : k < ks.length := by have := HKN.out; omega
                obtain ⟨pk2, hpk2⟩ : ∃ pk2, ks[k].pkg = pk2 := ⟨_, rfl⟩
                obtain ⟨at2, hat2'⟩ : ∃ at2, ks[k].at_ = at2 := ⟨_, rfl⟩
                have HPK := Lib.hid (package_at (HTS.out.pool.below HSV.out) hlen hpk2 hat2')
                obtain ⟨bq, hbq⟩ : ∃ bq, (pk.name.toList == pk2.name.toList) = bq := ⟨_, rfl⟩
                have HBQ : Hid (nmB ks pk.name k = bq) := by
                  rw [← hbq, beqS]
                  unfold nmB
                  rw [List.getElem?_map, List.getElem?_eq_getElem hlen, Option.map_some, hpk2]
                  exact decide_eq_decide.2 ⟨fun h => by injection h with h; exact h.symm, fun h => by rw [h]⟩
                clear hlen hpk2 hat2'
                replace hbq := Lib.hid hbq
                go_wp2_with fail
                refine HPK.out.mono ?_
                rintro e wz ⟨⟨a2, c2, af2, nf2, cf2, rfl, hv⟩, hbz⟩
                have HBZ : Hid (Below wQ.heap.size wQ wz) := below_tr HV.out hbz
                clear hv hbz HPK
                obtain ⟨w8, e8⟩ : ∃ w8, wz.alloc (.cells #[.string pk2.name, .string pk2.evr, .string pk2.arch, .string pk2.vendor, .slice (a2 0) (pk2.n 0) (c2 0), .slice (a2 1) (pk2.n 1) (c2 1), .slice (a2 2) (pk2.n 2) (c2 2), .slice (a2 3) (pk2.n 3) (c2 3), .slice (a2 4) (pk2.n 4) (c2 4), .slice (a2 5) (pk2.n 5) (c2 5), .slice (a2 6) (pk2.n 6) (c2 6), .slice af2 nf2 cf2] 26) = w8 := ⟨_, rfl⟩
                have HB8 : Hid (Below wz.heap.size wz w8 ∧ BoxN w8 wz.heap.size [.string pk2.name, .string pk2.evr, .string pk2.arch, .string pk2.vendor, .slice (a2 0) (pk2.n 0) (c2 0), .slice (a2 1) (pk2.n 1) (c2 1), .slice (a2 2) (pk2.n 2) (c2 2), .slice (a2 3) (pk2.n 3) (c2 3), .slice (a2 4) (pk2.n 4) (c2 4), .slice (a2 5) (pk2.n 5) (c2 5), .slice (a2 6) (pk2.n 6) (c2 6), .slice af2 nf2 cf2] 26) := by
                  rw [← e8]
                  exact ⟨below1 _ _, boxN_alloc _ _ _⟩
                have HBC8 : Hid (Below wQ.heap.size wQ w8) := below_tr HBZ.out HB8.out.1
                have HSS : Hid (∀ W, Below w8.heap.size w8 W → W.cell? ⟨X, 0, none⟩ = some (.string pk.name) ∧ W.cell? ⟨wz.heap.size, 0, none⟩ = some (.string pk2.name)) := fun W hb =>
                  ⟨(HBW.out.2.below (below_tr HBC8.out hb)).cell (j := 0) rfl, (HB8.out.2.below hb).cell (j := 0) rfl⟩
                have HNA : Hid (∀ W, Below w8.heap.size w8 W → Calls Try.prog 20 #[.pointer (some ⟨P, 0, none⟩), .string pk.name] W fun e w' => (∃ a q c, e = .returned (.slice a q c) ∧ ∀ W' : World, W'.heap = w'.heap → Calls Try.prog 18 #[.slice a q c, .int .i64 (k : Int)] W' fun e w'' => e = .returned (.bool bq) ∧ W' = w'') ∧ Below W.heap.size W w') := fun W hb => by
                  refine (named_at (HTS.out.pool.below (below_tr HBW.out.1 (below_tr HBC8.out hb))) pk.name HNM.out).mono ?_
                  rintro e w' ⟨⟨a, q, c, he, hh⟩, hb'⟩
                  refine ⟨⟨a, q, c, he, fun W' hW => ?_⟩, hb'⟩
                  have h1 := hh W' hW k
                  rwa [HBQ.out] at h1
                have x1 := (HSS.out w8 (Below.refl _ _)).1
                have x2 := (HSS.out w8 (Below.refl _ _)).2
                have hbr0 : Below w8.heap.size w8 w8.drew := below_dr1 (Below.refl _ _)
                have hbq1 := hbq.out
                go_upto_region 22 with fail
                go_cut [109] from 85 to 109 (fun t109 wx => t109 = .bool false ∧ Hid (Below w8.heap.size w8 wx))
                case first =>
                  go_region_held3 (fun W => W.cell? ⟨X, 0, none⟩ = some (.string pk.name) ∧ W.cell? ⟨wz.heap.size, 0, none⟩ = some (.string pk2.name))
                    (exact HSS.out _ (by assumption))
                    (first
                      | (go_at_call 20; refine (HNA.out _ (by assumption)).mono ?_; rintro e wa ⟨⟨ai, ki, ci, rfl, hhas⟩, hba⟩; have hbb := below_tr (show Below w8.heap.size w8 _ by assumption) hba; clear hba; replace hhas := Lib.hid hhas)
                      | (go_at_call 18; refine (hhas.out _ (by rfl)).mono ?_; rintro e wb ⟨rfl, rfl⟩))
                  all_goals
                    have HX : Hid (Below w8.heap.size w8 _) := (show Below w8.heap.size w8 _ by assumption)
                    clear x1 x2
                    go_wp2_with fail
                    go_meet
                    exact ⟨rfl, HX.out⟩
                case rest =>
                  obtain ⟨rfl, HBC⟩ := hcut
                  have HBE : Hid (Below wQ.heap.size wQ wc) := below_tr HBC8.out HBC.out
                  clear HNA HSS x1 x2 hbr0 e8 HBC HB8 HBC8 HBZ
                  go_wp2_with fail
                  go_roundw
                  case rel => exact ⟨k + 1, by go_num, by omega, HBE.out⟩
                  case measure => simp [intOf]; omega
              · have hi3 : ¬ (k : Int) < (n : Int) := by omega
                go_wp2_with fail
                go_roundw
                case rel => exact ⟨i + 1, by go_num, by omega, HSV.out⟩
                case measure => simp [intOf]; omega
        · have hi2 : ¬ (i : Int) < (n : Int) := by omega
          go_wp2_with fail
          go_ret
          exact ⟨rfl, below_tr HTS.out.blw HW.out⟩
end Go.Proofs.Ytgeimldijagkkaa
