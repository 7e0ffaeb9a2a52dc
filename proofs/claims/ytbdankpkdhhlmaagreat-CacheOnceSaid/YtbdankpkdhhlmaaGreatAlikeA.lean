/-
  A pool and the document's, side by side: does the one tell what the other does? Helper text; the conditions are those typed.
-/
import Derived.Test.YtbdankpkdhhlmaaGreatSameC
import Derived.Test.YtbdankpkdhhlmaaGreatPartsA
import Derived.Test.YtbdankpkdhhlmaaGreatPkgF
import Derived.Deep.CutBlock
import Derived.Deep.CutRange
namespace Go.Proofs.YtbdankpkdhhlmaaGreat
set_option linter.unusedVariables false
set_option linter.unusedSimpArgs false
open Go.RowKit Go.Maps

/-- Both, of the same repositories. -/
structure Both (w : World) (B : Nat) (role : Nat → Role) (P M Q : Nat) (kd : Int) (rl : List RepoT) (rs : List RepoH) (ks : List KeptT) (ats : List (Nat × Nat)) : Prop where
  pool : ∃ vr va lv, PoolIn w B role P M vr va lv kd rs ks (ks.map fun k => k.pkg.name)
  doc : ∃ mr ma, MIn w B (fun b => b < B) Q mr ma kd rl ats ∧ ∀ b, MB Q mr ma b → role b = .free
  built : Built rl rs ks ats
  rlen : rs.length ≤ 8
  klen : ks.length ≤ 200
theorem Both.below {w w' : World} {B : Nat} {role : Nat → Role} {P M Q : Nat} {kd : Int} {rl : List RepoT} {rs : List RepoH} {ks : List KeptT} {ats : List (Nat × Nat)} (h : Both w B role P M Q kd rl rs ks ats) (hb : Below w.heap.size w w') : Both w' B role P M Q kd rl rs ks ats := by
  obtain ⟨vr, va, lv, h1⟩ := h.pool
  obtain ⟨mr, ma, h2, h3⟩ := h.doc
  exact ⟨⟨vr, va, lv, h1.below hb⟩, ⟨mr, ma, h2.below hb, h3⟩, h.built, h.rlen, h.klen⟩

section
variable {w : World} {B : Nat} {role : Nat → Role} {P M Q : Nat} {kd : Int} {rl : List RepoT} {rs : List RepoH} {ks : List KeptT} {ats : List (Nat × Nat)}
theorem Both.kind_c (h : Both w B role P M Q kd rl rs ks ats) : Calls Tryz.prog 34 #[.pointer (some ⟨P, 0, none⟩)] w fun e w' => e = .returned (.int .i64 kd) ∧ w = w' := by
  obtain ⟨vr, va, lv, h1⟩ := h.pool
  exact YtbdankpkdhhlmaaGreat.kind_c h1
theorem Both.len_c (h : Both w B role P M Q kd rl rs ks ats) : Calls Tryz.prog 23 #[.pointer (some ⟨P, 0, none⟩)] w fun e w' => e = .returned (.int .i64 (ks.length : Int)) ∧ w = w' := by
  obtain ⟨vr, va, lv, h1⟩ := h.pool
  exact YtbdankpkdhhlmaaGreat.len_c h1
theorem Both.rlen_c (h : Both w B role P M Q kd rl rs ks ats) : Calls Tryz.prog 14 #[.pointer (some ⟨Q, 0, none⟩)] w fun e w' => e = .returned (.int .i64 (ks.length : Int)) ∧ w = w' := by
  obtain ⟨mr, ma, h2, h3⟩ := h.doc
  rw [h.built.len.2]
  exact YtbdankpkdhhlmaaGreat.rlen_c h2

theorem Both.named (h : Both w B role P M Q kd rl rs ks ats) (s : ByteArray) (hs : s.size ≤ maxLen) : Calls Tryz.prog 42 #[.pointer (some ⟨P, 0, none⟩), .string s] w fun e w' => (∃ v, e = .returned v ∧ IntsR w' (idsOf (ks.map fun k => k.pkg.name) s) v) ∧ Below w.heap.size w w' := by
  obtain ⟨vr, va, lv, h1⟩ := h.pool
  refine (named_c h1 (by rw [List.length_map]; exact h.klen) s hs).mono ?_
  rintro e w' ⟨⟨a, c, he, ho⟩, hb⟩
  exact ⟨⟨_, he, IntsR.of ho⟩, hb⟩
theorem Both.rnamed (h : Both w B role P M Q kd rl rs ks ats) (s : ByteArray) : Calls Tryz.prog 43 #[.pointer (some ⟨Q, 0, none⟩), .string s] w fun e w' => (∃ v, e = .returned v ∧ IntsR w' (idsOf (ks.map fun k => k.pkg.name) s) v) ∧ Below w.heap.size w w' := by
  obtain ⟨mr, ma, h2, h3⟩ := h.doc
  refine (rnamed_c h2 h.built (by rw [← h.built.len.2]; exact h.klen) (by rw [← h.built.len.1]; exact h.rlen) s).mono ?_
  rintro e w' ⟨⟨v, he, ho⟩, hb⟩
  exact ⟨⟨_, he, IntsR.of ho⟩, hb⟩
theorem Both.inst (h : Both w B role P M Q kd rl rs ks ats) : Calls Tryz.prog 45 #[.pointer (some ⟨P, 0, none⟩)] w fun e w' => (∃ v, e = .returned v ∧ IntsR w' (instOf rs ks ks.length) v) ∧ Below w.heap.size w w' := by
  obtain ⟨vr, va, lv, h1⟩ := h.pool
  refine (installed_c h1 h.klen h.rlen (fun k hk => ?_)).mono ?_
  · obtain ⟨i, hi, e⟩ := List.getElem_of_mem hk
    obtain ⟨k', j, _, h4, h5, _⟩ := h.built.at_ i hi
    rw [← e, h4, h.built.len.1]
    exact h5
  · rintro e w' ⟨⟨v, he, ho⟩, hb⟩
    exact ⟨⟨_, he, IntsR.of ho⟩, hb⟩
theorem Both.rinst (h : Both w B role P M Q kd rl rs ks ats) : Calls Tryz.prog 46 #[.pointer (some ⟨Q, 0, none⟩)] w fun e w' => (∃ v, e = .returned v ∧ IntsR w' (instOf rs ks ks.length) v) ∧ Below w.heap.size w w' := by
  obtain ⟨mr, ma, h2, h3⟩ := h.doc
  refine (rinstalled_c h2 h.built (by rw [← h.built.len.2]; exact h.klen) (by rw [← h.built.len.1]; exact h.rlen)).mono ?_
  rintro e w' ⟨⟨v, he, ho⟩, hb⟩
  exact ⟨⟨_, he, IntsR.of ho⟩, hb⟩
/-- The package of a number: what both tell. -/
theorem Both.rpkg (h : Both w B role P M Q kd rl rs ks ats) {i : Nat} (hi : i < ks.length) : Calls Tryz.prog 15 #[.pointer (some ⟨Q, 0, none⟩), .int .i64 (i : Int)] w fun e w' => (∃ (pa : Fin 7 → Option Addr) (pc : Fin 7 → Nat) (af : Option Addr) (nf cf : Nat), e = .returned (.agg #[.string ks[i].pkg.name, .string ks[i].pkg.evr, .string ks[i].pkg.arch, .string ks[i].pkg.vendor, .slice (pa 0) (ks[i].pkg.n 0) (pc 0), .slice (pa 1) (ks[i].pkg.n 1) (pc 1), .slice (pa 2) (ks[i].pkg.n 2) (pc 2), .slice (pa 3) (ks[i].pkg.n 3) (pc 3), .slice (pa 4) (ks[i].pkg.n 4) (pc 4), .slice (pa 5) (ks[i].pkg.n 5) (pc 5), .slice (pa 6) (ks[i].pkg.n 6) (pc 6), .slice af nf cf]) ∧ PkgV w' (fun b => b < B) ks[i].pkg (fun j => .slice (pa j) (ks[i].pkg.n j) (pc j)) (.slice af nf cf)) ∧ Below w.heap.size w w' := by
  obtain ⟨mr, ma, h2, h3⟩ := h.doc
  obtain ⟨k, j, h4, h5, hk, hj, h6⟩ := h.built.at_ i hi
  exact rpackage_c h2 (by rw [← h.built.len.2]; exact h.klen) (by rw [← h.built.len.1]; exact h.rlen) h4 hk hj h6

set_option maxHeartbeats 4000000 in
set_option maxRecDepth 100000 in
/-- Alike. -/
theorem alike_c (h : Both w B role P M Q kd rl rs ks ats) : Calls Tryz.prog 21 #[.pointer (some ⟨P, 0, none⟩), .pointer (some ⟨Q, 0, none⟩)] w fun e w' => e = .returned (.bool true) ∧ Below w.heap.size w w' := by
  have HR : Hid (Calls Tryz.prog 28 #[.pointer (some ⟨P, 0, none⟩)] w fun e w' => (∃ a' c', e = .returned (.slice a' rs.length c') ∧ w'.ownsRow w.heap.size 40 4 (.slice a' rs.length c') rs.length (rs.flatMap repoCells)) ∧ Below w.heap.size w w') := by
    obtain ⟨vr, va, lv, h1⟩ := h.pool
    exact repos_c h1 h.rlen
  have HH := Lib.hid h
  have hrl := h.rlen
  have hkl := h.klen
  clear h
  go_enter Tryz.func21, Tryz.ntmps21
  go_wp2_with fail
  refine HR.out.mono ?_
  rintro e w1 ⟨⟨ar, cr, rfl, hrow⟩, hb1⟩
  have HROW := Lib.hid hrow
  have HB1 := Lib.hid hb1
  have HH1 := Lib.hid (HH.out.below hb1)
  clear hrow hb1 HR
  obtain ⟨mr, ma, hm, hfree⟩ := HH1.out.doc
  obtain ⟨mra, mrc, hmr⟩ := hm.rform
  obtain ⟨maa, mac, hma⟩ := hm.aform
  subst hmr hma
  have q0 := hm.box.cell (j := 0) rfl
  have q1 := hm.box.cell (j := 1) rfl
  rw [← HH1.out.built.len.1] at q1
  have hk1 : Hid (∀ k, Calls Tryz.prog 34 #[.pointer (some ⟨P, 0, none⟩)] (w1.drewN k) fun e w' => e = .returned (.int .i64 kd) ∧ w' = w1.drewN k) := fun k => (HH1.out.below (below_drewN (Below.refl _ _) k)).kind_c.mono fun e w' h => ⟨h.1, h.2.symm⟩
  have hk2 : Hid (∀ k, Calls Tryz.prog 23 #[.pointer (some ⟨P, 0, none⟩)] (w1.drewN k) fun e w' => e = .returned (.int .i64 (ks.length : Int)) ∧ w' = w1.drewN k) := fun k => (HH1.out.below (below_drewN (Below.refl _ _) k)).len_c.mono fun e w' h => ⟨h.1, h.2.symm⟩
  have hk3 : Hid (∀ k, Calls Tryz.prog 14 #[.pointer (some ⟨Q, 0, none⟩)] (w1.drewN k) fun e w' => e = .returned (.int .i64 (ks.length : Int)) ∧ w' = w1.drewN k) := fun k => (HH1.out.below (below_drewN (Below.refl _ _) k)).rlen_c.mono fun e w' h => ⟨h.1, h.2.symm⟩
  generalize hks : ks.length = n at hk2 hk3
  generalize hrs : rs.length = m at q1
  replace hm := Lib.hid hm
  replace hfree := Lib.hid hfree
  go_wp2_with fail
  go_quiet (first | (go_at_call 34; refine Calls.quiet_of_same (hk1.out _)) | (go_at_call 23; refine Calls.quiet_of_same (hk2.out _)) | (go_at_call 14; refine Calls.quiet_of_same (hk3.out _)))
  obtain ⟨w2, hw2⟩ : ∃ w2, w1.drewN nq = w2 := ⟨_, rfl⟩
  have H2 : Hid (Below w.heap.size w w2 ∧ w2.ownsRow w.heap.size 40 4 (.slice ar m cr) m (rs.flatMap repoCells) ∧ Both w2 B role P M Q kd rl rs ks ats) := by
    rw [← hw2]
    refine ⟨below_drewN HB1.out nq, ?_, HH1.out.below (below_drewN (Below.refl _ _) nq)⟩
    have h1 := HROW.out
    rw [hrs] at h1
    exact ownsRow_below h1 (below_drewN (Below.refl _ _) nq)
  rw [hw2]
  have HRS := Lib.hid hrs
  have HKS := Lib.hid hks
  rw [hrs] at hrl
  rw [hks] at hkl
  clear hw2 hk1 hk2 hk3 hm hfree HH1 HB1 HROW q0 q1 hrs hks HH
  clear w1
  go_wp2_with fail
  go_loopw [6] (fun vi wr => ∃ i : Nat, vi = .int .i64 i ∧ i ≤ m ∧ Hid (Below w.heap.size w wr ∧ wr.ownsRow w.heap.size 40 4 (.slice ar m cr) m (rs.flatMap repoCells) ∧ Both wr B role P M Q kd rl rs ks ats)) (fun vi _ => m - (intOf vi).toNat)
  case atStart => exact ⟨0, rfl, Nat.zero_le _, H2.out⟩
  case round =>
    clear H2
    obtain ⟨i, rfl, him, HT⟩ := hrel
    by_cases hlt : i < m
    · have hi1 : (i : Int) < (m : Int) := by omega
      have hir : i < rs.length := by have := HRS.out; omega
      have hil : i < rl.length := by have := HT.out.2.2.built.len.1; omega
      obtain ⟨mr, ma, hmm, hfree⟩ := HT.out.2.2.doc
      obtain ⟨ma1, ma2, rfl⟩ := hmm.aform
      obtain ⟨G, cg, ap, np, cp, rfl, hGlt, hGQ, hpk, hG⟩ := hmm.repo hil
      have hx := HT.out.2.2.built.head i hil
      obtain ⟨x, hxe⟩ : ∃ x, rs[i] = x := ⟨_, rfl⟩
      rw [List.getElem?_eq_getElem hir, hxe] at hx
      have hx2 := Option.some.inj hx
      have hgc := hG wr rfl
      have e0 : rl[i].name = x.name := by rw [hx2]
      have e1 : rl[i].prio = x.prio := by rw [hx2]
      have e2 : rl[i].inst = x.inst := by rw [hx2]
      rw [e0, e1, e2] at hgc
      have g0 := hgc 0 _ rfl
      have g1 := hgc 1 _ rfl
      have g2 := hgc 2 _ rfl
      have g3 := hgc 3 _ rfl
      rw [Nat.add_zero] at g0
      have q1 := hmm.box.cell (j := 1) rfl
      rw [← HT.out.2.2.built.len.1, HRS.out] at q1
      obtain ⟨ga, ca, hga⟩ : ∃ ga ca, Value.slice ar m cr = .slice (some ⟨ga, 0, none⟩) m ca := by
        rcases ownsRow_form HT.out.2.1 with ⟨e, h0⟩ | ⟨g, c, e, _⟩
        · omega
        · exact ⟨g, c, e⟩
      injection hga with hga1 hga2 hga3
      subst hga1
      subst hga3
      clear hga2
      have HRC : Hid (∀ W : World, Below wr.heap.size wr W → W.cell? ⟨ga, i * 4, none⟩ = some (.string x.name) ∧ W.cell? ⟨ga, i * 4 + 1, none⟩ = some (.int .i64 x.prio) ∧ W.cell? ⟨ga, i * 4 + 2, none⟩ = some (.bool x.inst) ∧ W.cell? ⟨ga, i * 4 + 3, none⟩ = some (.slice none 0 0)) := fun W hW => by
        have h1 := ownsRow_below HT.out.2.1 hW
        have h2 : ∀ r u, (repoCells rs[i])[r]? = some u → W.cell? ⟨ga, i * 4 + r, none⟩ = some u := fun r u hr => ownsRow_cell h1 (repos_get rs i hir r u hr)
        rw [hxe] at h2
        exact ⟨h2 0 _ rfl, h2 1 _ rfl, h2 2 _ rfl, h2 3 _ rfl⟩
      obtain ⟨w3, e3⟩ : ∃ w3, wr.alloc (.cells #[.string x.name, .int .i64 x.prio, .bool x.inst, .slice ap np cp] 40) = w3 := ⟨_, rfl⟩
      have HB3 : Hid (Below wr.heap.size wr w3 ∧ BoxN w3 wr.heap.size [.string x.name, .int .i64 x.prio, .bool x.inst, .slice ap np cp] 40) := by
        rw [← e3]
        exact ⟨below1 _ _, boxN_alloc _ _ _⟩
      obtain ⟨c0, c1, c2, c3⟩ := HRC.out w3 HB3.out.1
      have p0 := HB3.out.2.cell (j := 0) rfl
      have p1 := HB3.out.2.cell (j := 1) rfl
      have p2 := HB3.out.2.cell (j := 2) rfl
      have p3 := HB3.out.2.cell (j := 3) rfl
      have HN : Hid (∀ k, Below w.heap.size w (w3.drewN k) ∧ (w3.drewN k).ownsRow w.heap.size 40 4 (.slice (some ⟨ga, 0, none⟩) m cr) m (rs.flatMap repoCells) ∧ Both (w3.drewN k) B role P M Q kd rl rs ks ats) := fun k =>
        ⟨below_tr HT.out.1 (below_drewN HB3.out.1 k), ownsRow_below HT.out.2.1 (below_drewN HB3.out.1 k), HT.out.2.2.below (below_drewN HB3.out.1 k)⟩
      clear hmm hfree hpk hG hx hx2 hgc e0 e1 e2 hxe hGlt hGQ
      generalize x.name = xn at *
      generalize x.prio = xp at *
      generalize x.inst = xi at *
      go_wp2_with fail
      go_quiet (fail)
      go_wp2_with fail
      go_roundw
      case rel => exact ⟨i + 1, by go_num, by omega, HN.out nq⟩
      case measure => simp [intOf]; omega
    · have hi1 : ¬ (i : Int) < (m : Int) := by omega
      go_wp2_with fail
      clear hi1 hlt him
      go_loopw [8] (fun vi wz => ∃ i : Nat, vi = .int .i64 i ∧ i ≤ n ∧ Hid (Below w.heap.size w wz ∧ Both wz B role P M Q kd rl rs ks ats)) (fun vi _ => n - (intOf vi).toNat)
      case atStart => exact ⟨0, rfl, Nat.zero_le _, HT.out.1, HT.out.2.2⟩
      case round =>
        clear HT
        obtain ⟨i, rfl, hin, HT⟩ := hrel
        have hk3 := Lib.hid HT.out.2.rlen_c
        rw [HKS.out] at hk3
        go_wp2_with fail
        refine hk3.out.mono ?_
        rintro e w2 ⟨rfl, hw2⟩
        subst hw2
        clear hk3
        by_cases hlt : i < n
        · have hi1 : (i : Int) < (n : Int) := by omega
          have hik : i < ks.length := by rw [HKS.out]; exact hlt
          obtain ⟨pk, hpk⟩ : ∃ pk, ks[i].pkg = pk := ⟨_, rfl⟩
          obtain ⟨at_, hat⟩ : ∃ at_, ks[i].at_ = at_ := ⟨_, rfl⟩
          have HPK := Lib.hid hpk
          have HAT := Lib.hid hat
          obtain ⟨vr, va, lv, hpool⟩ := HT.out.2.pool
          have HC := Lib.hid (packageF_c hpool HT.out.2.klen hik hpk hat)
          clear hpool hpk hat
          go_wp2_with fail
          refine HC.out.mono ?_
          rintro e w3 ⟨⟨xa, xc, xf, xn, xg, rfl, hpv⟩, hb3⟩
          have HPV := Lib.hid hpv
          have HB3 := Lib.hid hb3
          obtain ⟨w4, e4⟩ : ∃ w4, w3.alloc (.cells #[.string pk.name, .string pk.evr, .string pk.arch, .string pk.vendor, .slice (xa 0) (pk.n 0) (xc 0), .slice (xa 1) (pk.n 1) (xc 1), .slice (xa 2) (pk.n 2) (xc 2), .slice (xa 3) (pk.n 3) (xc 3), .slice (xa 4) (pk.n 4) (xc 4), .slice (xa 5) (pk.n 5) (xc 5), .slice (xa 6) (pk.n 6) (xc 6), .slice xf xn xg] 45) = w4 := ⟨_, rfl⟩
          have HB4 : Hid (Below wr.heap.size wr w4 ∧ BoxN w4 w3.heap.size [.string pk.name, .string pk.evr, .string pk.arch, .string pk.vendor, .slice (xa 0) (pk.n 0) (xc 0), .slice (xa 1) (pk.n 1) (xc 1), .slice (xa 2) (pk.n 2) (xc 2), .slice (xa 3) (pk.n 3) (xc 3), .slice (xa 4) (pk.n 4) (xc 4), .slice (xa 5) (pk.n 5) (xc 5), .slice (xa 6) (pk.n 6) (xc 6), .slice xf xn xg] 45) := by
            rw [← e4]
            exact ⟨below_tr HB3.out (below1 _ _), boxN_alloc _ _ _⟩
          clear hpv hb3 HC
          have HR32 : Hid (∀ W, Below wr.heap.size wr W → Calls Tryz.prog 15 #[.pointer (some ⟨Q, 0, none⟩), .int .i64 (i : Int)] W fun e w' => (∃ (pa : Fin 7 → Option Addr) (pc : Fin 7 → Nat) (af : Option Addr) (nf cf : Nat), e = .returned (.agg #[.string pk.name, .string pk.evr, .string pk.arch, .string pk.vendor, .slice (pa 0) (pk.n 0) (pc 0), .slice (pa 1) (pk.n 1) (pc 1), .slice (pa 2) (pk.n 2) (pc 2), .slice (pa 3) (pk.n 3) (pc 3), .slice (pa 4) (pk.n 4) (pc 4), .slice (pa 5) (pk.n 5) (pc 5), .slice (pa 6) (pk.n 6) (pc 6), .slice af nf cf]) ∧ PkgV w' (fun b => b < B) pk (fun j => .slice (pa j) (pk.n j) (pc j)) (.slice af nf cf)) ∧ Below W.heap.size W w') := fun W hW => by
            have h1 := (HT.out.2.below hW).rpkg hik
            rw [HPK.out] at h1
            exact h1
          have HX4 : Hid (∀ W : World, W.heap[w3.heap.size]? = w4.heap[w3.heap.size]? → BoxN W w3.heap.size [.string pk.name, .string pk.evr, .string pk.arch, .string pk.vendor, .slice (xa 0) (pk.n 0) (xc 0), .slice (xa 1) (pk.n 1) (xc 1), .slice (xa 2) (pk.n 2) (xc 2), .slice (xa 3) (pk.n 3) (xc 3), .slice (xa 4) (pk.n 4) (xc 4), .slice (xa 5) (pk.n 5) (xc 5), .slice (xa 6) (pk.n 6) (xc 6), .slice xf xn xg] 45) := fun W hW => HB4.out.2.to hW
          go_upto_region 14 with fail
          refine wp_region_ord (fun W => W.heap[w3.heap.size]? = w4.heap[w3.heap.size]?) 5 [(true, 0), (true, 1), (true, 2), (false, 3), (false, 4), (false, 5)] (by kernel_rfl) (by kernel_rfl) (fun _ _ d _ _ h => by cases d <;> exact h) rfl ?_
          intro wd hwd hS
          simp only [ordOps, List.map_cons, List.map_nil, Array.getD_eq_getD_getElem?, List.getElem?_toArray, List.getElem?_cons_succ, List.getElem?_cons_zero, Option.getD_some]
          iterate 3 (refine wpOrd_q rfl _ (fun w' hS' K hK => (by have x0 := (HX4.out w' hS').cell (j := 0) rfl; have x1 := (HX4.out w' hS').cell (j := 1) rfl; have x2 := (HX4.out w' hS').cell (j := 2) rfl; have x3 := (HX4.out w' hS').cell (j := 3) rfl; have x4 := (HX4.out w' hS').cell (j := 4) rfl; have x5 := (HX4.out w' hS').cell (j := 5) rfl; have x6 := (HX4.out w' hS').cell (j := 6) rfl; have x7 := (HX4.out w' hS').cell (j := 7) rfl; have x8 := (HX4.out w' hS').cell (j := 8) rfl; have x9 := (HX4.out w' hS').cell (j := 9) rfl; have x10 := (HX4.out w' hS').cell (j := 10) rfl; have x11 := (HX4.out w' hS').cell (j := 11) rfl; clear hS'; go_simp; exact hK)) (fun K hK => ?_); go_simp; refine hK _ ?_; clear hK K)
          have HBd : Hid (Below w4.heap.size w4 wd) := by rw [hwd.out]; exact below_dr1 (Below.refl _ _)
          have HXL : Hid (w3.heap.size < w4.heap.size) := HB4.out.2.lt
          refine wpOrd_l rfl (fun K hK => ?_)
          go_simp
          refine (HR32.out wd (below_tr HB4.out.1 HBd.out)).mono ?_
          rintro e w5 ⟨⟨pa, pc, af, nf, cf, rfl, hp5⟩, hb5⟩
          have HB5 : Hid (Below w4.heap.size w4 w5) := below_tr HBd.out hb5
          have HP5 := Lib.hid hp5
          have HSP := Lib.hid (samePkg_eq pk xa xc xf xn xg pa pc af nf cf _ _ w5 ((HPV.out.below (by rw [← e4]; exact below1 _ _)).below HB5.out) hp5)
          go_simp
          refine hK _ _ ⟨fun _ => HB5.out.block _ HXL.out, ?_⟩
          clear hK K hp5 hb5
          refine wpOrd_l rfl (fun K hK => ?_)
          go_simp
          refine HSP.out.mono ?_
          rintro e w6 ⟨rfl, hb6⟩
          have HB6 : Hid (Below w4.heap.size w4 w6) := below_tr HB5.out hb6
          go_simp
          refine hK _ _ ⟨fun _ => HB6.out.block _ HXL.out, ?_⟩
          clear hK K hb6
          refine wpOrd_l rfl (fun K hK => ?_)
          go_simp
          refine hK _ _ ⟨fun h => absurd rfl h, ?_⟩
          clear hK K
          refine wpOrd_nil ?_
          clear hS hwd
          obtain ⟨ids, hids⟩ : ∃ ids, idsOf (ks.map fun k => k.pkg.name) pk.name = ids := ⟨_, rfl⟩
          have HIL : Hid (ids.length ≤ 200) := by
            rw [← hids]
            have h1 := idsOf_len (ks.map fun k => k.pkg.name) pk.name
            rw [List.length_map] at h1
            exact Nat.le_trans h1 HT.out.2.klen
          have HN13 : Hid (∀ W, Below wr.heap.size wr W → Calls Tryz.prog 42 #[.pointer (some ⟨P, 0, none⟩), .string pk.name] W fun e w' => (∃ v, e = .returned v ∧ IntsR w' ids v) ∧ Below W.heap.size W w') := fun W hW => by
            have h1 := (HT.out.2.below hW).named pk.name HPV.out.name
            rw [hids] at h1
            exact h1
          have HN14 : Hid (∀ W, Below wr.heap.size wr W → Calls Tryz.prog 43 #[.pointer (some ⟨Q, 0, none⟩), .string pk.name] W fun e w' => (∃ v, e = .returned v ∧ IntsR w' ids v) ∧ Below W.heap.size W w') := fun W hW => by
            have h1 := (HT.out.2.below hW).rnamed pk.name
            rw [hids] at h1
            exact h1
          clear hids
          have HX6 : Hid (∀ W : World, W.heap[w3.heap.size]? = w6.heap[w3.heap.size]? → BoxN W w3.heap.size [.string pk.name, .string pk.evr, .string pk.arch, .string pk.vendor, .slice (xa 0) (pk.n 0) (xc 0), .slice (xa 1) (pk.n 1) (xc 1), .slice (xa 2) (pk.n 2) (xc 2), .slice (xa 3) (pk.n 3) (xc 3), .slice (xa 4) (pk.n 4) (xc 4), .slice (xa 5) (pk.n 5) (xc 5), .slice (xa 6) (pk.n 6) (xc 6), .slice xf xn xg] 45) := fun W hW => HB4.out.2.to (hW.trans (HB6.out.block _ HXL.out))
          have HBr6 : Hid (Below wr.heap.size wr w6) := below_tr HB4.out.1 HB6.out
          have HXL6 : Hid (w3.heap.size < w6.heap.size) := Nat.lt_of_lt_of_le HXL.out HB6.out.size
          go_upto_region 15 with fail
          refine wp_region_ord (fun W => W.heap[w3.heap.size]? = w6.heap[w3.heap.size]?) 9 [(true, 0), (true, 1), (true, 2), (true, 4), (true, 5), (true, 6), (false, 3), (false, 7), (false, 8), (false, 9)] (by kernel_rfl) (by kernel_rfl) (fun _ _ d _ _ h => by cases d <;> exact h) rfl ?_
          intro wd hwd hS
          simp only [ordOps, List.map_cons, List.map_nil, Array.getD_eq_getD_getElem?, List.getElem?_toArray, List.getElem?_cons_succ, List.getElem?_cons_zero, Option.getD_some]
          iterate 6 (refine wpOrd_q rfl _ (fun w' hS' K hK => (by have x0 := (HX6.out w' hS').cell (j := 0) rfl; clear hS'; go_simp; exact hK)) (fun K hK => ?_); go_simp; refine hK _ ?_; clear hK K)
          have HBd6 : Hid (Below w6.heap.size w6 wd) := by rw [hwd.out]; exact below_dr1 (Below.refl _ _)
          refine wpOrd_l rfl (fun K hK => ?_)
          go_simp
          refine (HN13.out wd (below_tr HBr6.out HBd6.out)).mono ?_
          rintro e w7 ⟨⟨v7, rfl, hv7⟩, hb7⟩
          have HB7 : Hid (Below w6.heap.size w6 w7) := below_tr HBd6.out hb7
          have HV7 := Lib.hid hv7
          go_simp
          refine hK _ _ ⟨fun _ => HB7.out.block _ HXL6.out, ?_⟩
          clear hK K hv7 hb7
          refine wpOrd_l rfl (fun K hK => ?_)
          go_simp
          refine (HN14.out w7 (below_tr HBr6.out HB7.out)).mono ?_
          rintro e w8 ⟨⟨v8, rfl, hv8⟩, hb8⟩
          have HB8 : Hid (Below w6.heap.size w6 w8) := below_tr HB7.out hb8
          have HSI := Lib.hid (sameI_eq ids v7 v8 w8 HIL.out (HV7.out.below hb8) hv8)
          go_simp
          refine hK _ _ ⟨fun _ => HB8.out.block _ HXL6.out, ?_⟩
          clear hK K hv8 hb8
          refine wpOrd_l rfl (fun K hK => ?_)
          go_simp
          refine HSI.out.mono ?_
          rintro e w9 ⟨rfl, hb9⟩
          have HB9 : Hid (Below w6.heap.size w6 w9) := below_tr HB8.out hb9
          go_simp
          refine hK _ _ ⟨fun _ => HB9.out.block _ HXL6.out, ?_⟩
          clear hK K hb9
          refine wpOrd_l rfl (fun K hK => ?_)
          go_simp
          refine hK _ _ ⟨fun h => absurd rfl h, ?_⟩
          clear hK K
          refine wpOrd_nil ?_
          clear hS hwd
          have HBr9 : Hid (Below wr.heap.size wr w9) := below_tr HBr6.out HB9.out
          have HX9 : Hid (BoxN w9 w3.heap.size [.string pk.name, .string pk.evr, .string pk.arch, .string pk.vendor, .slice (xa 0) (pk.n 0) (xc 0), .slice (xa 1) (pk.n 1) (xc 1), .slice (xa 2) (pk.n 2) (xc 2), .slice (xa 3) (pk.n 3) (xc 3), .slice (xa 4) (pk.n 4) (xc 4), .slice (xa 5) (pk.n 5) (xc 5), .slice (xa 6) (pk.n 6) (xc 6), .slice xf xn xg] 45) := HX6.out w9 (HB9.out.block _ HXL6.out)
          obtain ⟨mr9, ma9, hmm9, _⟩ := (HT.out.2.below HBr9.out).doc
          obtain ⟨k9, j9, hat9, hk9, _⟩ := HT.out.2.built.at_ i hik
          obtain ⟨A9, c9, rfl, _, _, hA9⟩ := hmm9.at_ hat9
          have a9 := (hA9 w9 rfl).1
          have q9 := hmm9.box.cell (j := 2) rfl
          rw [← HT.out.2.built.len.2, HKS.out] at q9
          rw [HAT.out] at hk9
          subst hk9
          clear hmm9 hat9 hA9
          obtain ⟨w10, e10⟩ : ∃ w10, w9.alloc (.cells #[.string pk.name, .string pk.evr, .string pk.arch, .string pk.vendor, .slice (xa 0) (pk.n 0) (xc 0), .slice (xa 1) (pk.n 1) (xc 1), .slice (xa 2) (pk.n 2) (xc 2), .slice (xa 3) (pk.n 3) (xc 3), .slice (xa 4) (pk.n 4) (xc 4), .slice (xa 5) (pk.n 5) (xc 5), .slice (xa 6) (pk.n 6) (xc 6), .slice xf xn xg] 45) = w10 := ⟨_, rfl⟩
          have HB10 : Hid (Below w9.heap.size w9 w10 ∧ Fr w10 w9.heap.size ∧ CellsAt w10 w9.heap.size (0 + 0 * 12) [.string pk.name, .string pk.evr, .string pk.arch, .string pk.vendor, .slice (xa 0) (pk.n 0) (xc 0), .slice (xa 1) (pk.n 1) (xc 1), .slice (xa 2) (pk.n 2) (xc 2), .slice (xa 3) (pk.n 3) (xc 3), .slice (xa 4) (pk.n 4) (xc 4), .slice (xa 5) (pk.n 5) (xc 5), .slice (xa 6) (pk.n 6) (xc 6), .slice xf xn xg]) := by
            rw [← e10]
            refine ⟨below1 _ _, Fr.of_box (boxN_alloc _ _ _), fun j u hj => ?_⟩
            have h1 := (boxN_alloc w9 [.string pk.name, .string pk.evr, .string pk.arch, .string pk.vendor, .slice (xa 0) (pk.n 0) (xc 0), .slice (xa 1) (pk.n 1) (xc 1), .slice (xa 2) (pk.n 2) (xc 2), .slice (xa 3) (pk.n 3) (xc 3), .slice (xa 4) (pk.n 4) (xc 4), .slice (xa 5) (pk.n 5) (xc 5), .slice (xa 6) (pk.n 6) (xc 6), .slice xf xn xg] 45).cell hj
            rw [Nat.zero_mul, Nat.add_zero, Nat.zero_add]
            exact h1
          have x0 := HX9.out.cell (j := 0) rfl
          have x1 := HX9.out.cell (j := 1) rfl
          have x2 := HX9.out.cell (j := 2) rfl
          have x3 := HX9.out.cell (j := 3) rfl
          have x4 := HX9.out.cell (j := 4) rfl
          have x5 := HX9.out.cell (j := 5) rfl
          have x6 := HX9.out.cell (j := 6) rfl
          have x7 := HX9.out.cell (j := 7) rfl
          have x8 := HX9.out.cell (j := 8) rfl
          have x9 := HX9.out.cell (j := 9) rfl
          have x10 := HX9.out.cell (j := 10) rfl
          have x11 := HX9.out.cell (j := 11) rfl
          have HP10 : Hid (PkgV w10 (fun b => New wr.heap.size w10 b ∧ b < w9.heap.size) pk (fun i => .slice (xa i) (pk.n i) (xc i)) (.slice xf xn xg)) := by
            have h9 : Below w3.heap.size w3 w9 := by
              have h1 : Below w3.heap.size w3 w4 := by rw [← e4]; exact below1 _ _
              exact below_tr h1 (below_tr HB6.out HB9.out)
            exact (HPV.out.new h9).keep (fun b hb => ⟨hb.below HB10.out.1, hb.2.lt⟩) (fun b hb hl => HB10.out.1.block b hl)
          have HSP2 := Lib.hid (spoilt_c [pk] ⟨#[]⟩ 0 false (some ⟨w9.heap.size, 0, none⟩) 1 1 (fun b => New wr.heap.size w10 b ∧ b < w9.heap.size) w10 rfl (by decide) (fun _ => ⟨w9.heap.size, 0, rfl, fun h => Nat.lt_irrefl _ h.2, HB10.out.2.1, fun j hj => by
            obtain rfl : j = 0 := by simpa using hj
            exact ⟨_, _, HP10.out, HB10.out.2.2⟩⟩) (fun x hx => hx.1.2))
          go_wp2_with fail
          refine HSP2.out.mono ?_
          rintro e w11 ⟨rfl, hs⟩
          have HB11 : Hid (Below wr.heap.size wr w11) := by
            have h1 : Below wr.heap.size wr w10 := below_tr HBr9.out HB10.out.1
            refine h1.trans ⟨hs.os, hs.tape, hs.output, hs.size, fun b hb => hs.block b (Nat.lt_of_lt_of_le hb h1.size) ?_⟩
            rintro (h2 | ⟨off, h2⟩)
            · have := h2.1.1
              omega
            · injection h2 with h2
              injection h2 with h2 _ _
              have := HBr9.out.size
              omega
          clear hs
          go_wp2_with fail
          go_roundw
          case rel => exact ⟨i + 1, by go_num, by omega, below_tr HT.out.1 HB11.out, HT.out.2.below HB11.out⟩
          case measure => simp [intOf]; omega
        · have hi1 : ¬ (i : Int) < (n : Int) := by omega
          have HIL : Hid ((instOf rs ks ks.length).length ≤ 200) := Nat.le_trans (instOf_len _ _ _) HT.out.2.klen
          have h33 := Lib.hid HT.out.2.inst
          go_wp2_with fail
          refine h33.out.mono ?_
          rintro e w2 ⟨⟨v2, rfl, hv2⟩, hb2⟩
          have HB2 := Lib.hid hb2
          have HV2 := Lib.hid hv2
          have h34 := Lib.hid (HT.out.2.below hb2).rinst
          clear h33 hb2 hv2
          go_wp2_with fail
          refine h34.out.mono ?_
          rintro e w3 ⟨⟨v3, rfl, hv3⟩, hb3⟩
          have HB3 := Lib.hid hb3
          have h12 := Lib.hid (sameI_eq _ v2 v3 w3 HIL.out (HV2.out.below hb3) hv3)
          clear h34 hb3 hv3
          go_wp2_with fail
          refine h12.out.mono ?_
          rintro e w4 ⟨rfl, hb4⟩
          have HB4 : Hid (Below w.heap.size w w4) := below_tr HT.out.1 (below_tr (below_tr HB2.out HB3.out) hb4)
          clear h12 hb4
          go_wp2_with fail
          go_ret
          exact ⟨rfl, HB4.out⟩
end
end Go.Proofs.YtbdankpkdhhlmaaGreat
