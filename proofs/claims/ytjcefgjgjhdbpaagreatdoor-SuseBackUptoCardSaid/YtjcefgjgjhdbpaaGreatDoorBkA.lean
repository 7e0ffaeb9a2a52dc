/-
  Packages that may not be written; what is refused. Helper text; the conditions are those typed.
-/
import Derived.Test.YtjcefgjgjhdbpaaGreatDoorLawAg
import Derived.Test.YtjcefgjgjhdbpaaGreatDoorWrtB
import Derived.Test.YtjcefgjgjhdbpaaGreatDoorChkE
import Derived.Deep.LoopGhost
namespace Go.Proofs.YtjcefgjgjhdbpaaGreatDoor
set_option linter.unusedVariables false
set_option linter.unusedSimpArgs false
open Go.RowKit Go.Shelf Go.Maps

/-- The first error. -/
def wrongP : List PkgT → Int
  | [] => 0
  | p :: l => if pkgCheck p ≠ 0 then pkgCheck p else wrongP l
def wrongS (ps : List PkgT) : Int := if 200 < ps.length then 131 else wrongP ps
theorem wrongP_ok : ∀ {ps : List PkgT}, wrongP ps = 0 → ∀ p ∈ ps, pkgCheck p = 0
  | [], _, p, hp => by cases hp
  | q :: l, h, p, hp => by
    unfold wrongP at h
    split at h
    · rename_i h1
      exact absurd h h1
    · rename_i h1
      rcases List.mem_cons.1 hp with rfl | hp
      · exact Decidable.of_not_not h1
      · exact wrongP_ok h p hp
theorem wrongS_ok {ps : List PkgT} (h : wrongS ps = 0) : (∀ p ∈ ps, pkgCheck p = 0) ∧ ps.length ≤ 200 := by
  unfold wrongS at h
  split at h
  · cases h
  · exact ⟨wrongP_ok h, by omega⟩
theorem deps_le {p : PkgT} (h : pkgCheck p = 0) : (∀ i, p.n i ≤ 16) ∧ p.files.length ≤ 16 := by
  unfold pkgCheck chk6 at h
  repeat' split at h
  all_goals first | cases h | skip
  rename_i h5 h6
  have h5 : depsB p = true := by simpa using h5
  have h6 : filesB p.files = true := by simpa using h6
  refine ⟨fun i => ?_, ?_⟩
  · unfold depsB at h5
    have := List.all_eq_true.1 h5 i (List.mem_finRange i)
    rw [Bool.and_eq_true] at this
    simpa using this.1
  · unfold filesB at h6
    rw [Bool.and_eq_true] at h6
    simpa using h6.1
theorem line_small2 {p : PkgT} (h : pkgCheck p = 0) (hs : ∀ i, ∀ d ∈ depsL p i, nparts d ≤ 1048576) : ∀ v ∈ linesP p, v.length ≤ 2500 := by
  obtain ⟨h1, h2, h3, h4, h5, h6⟩ := check_parts h
  obtain ⟨z1, z2, z3, z4⟩ := sizes_of ⟨h1, h2, h3, h4⟩
  intro v hv
  unfold linesP at hv
  rcases List.mem_cons.1 hv with rfl | hv
  · have h7 : (verRel (bs p.evr)).1.length ≤ 60 ∧ (verRel (bs p.evr)).2.length ≤ 60 := by
      unfold verRel
      cases li 45 (bs p.evr) with
      | none => exact ⟨by rw [bs_length]; exact z2, by show [(45 : UInt8)].length ≤ 60; decide⟩
      | some j =>
        refine ⟨?_, ?_⟩
        · simp only [List.length_take, bs_length]
          omega
        · simp only [List.length_drop, bs_length]
          omega
    unfold lineV valP pkgW
    simp only [List.length_cons, List.length_append, List.length_nil, bs_length]
    omega
  · rcases List.mem_append.1 hv with hv | hv
    · split at hv
      · cases hv
      · rw [List.mem_singleton] at hv
        subst hv
        unfold lineV vndW
        simp only [List.length_cons, List.length_append, List.length_nil, bs_length]
        omega
    · rcases List.mem_append.1 hv with hv | hv
      · obtain ⟨i, _, hv⟩ := List.mem_flatMap.1 hv
        obtain ⟨d, hd, rfl⟩ := List.mem_map.1 hv
        have h7 := print_small (h5 i d hd) (by have := hs i d hd; omega)
        have h8 : (tagI i).length ≤ 3 := by
          have : ∀ i : Fin 7, (tagI i).length ≤ 3 := by decide
          exact this i
        unfold lineV
        simp only [List.length_cons, List.length_append, List.length_nil]
        omega
      · obtain ⟨f, hf, rfl⟩ := List.mem_map.1 hv
        have h7 := (name_parts (h6 f hf)).2.1
        unfold lineV flsW
        simp only [List.length_cons, List.length_append, List.length_nil, bs_length]
        omega
theorem sum_lines : ∀ (ps : List PkgT), (∀ p ∈ ps, (linesP p).length ≤ 130) → (ps.flatMap linesP).length ≤ ps.length * 130
  | [], _ => Nat.le_refl _
  | p :: l, h => by
    have h1 := sum_lines l fun q hq => h q (List.mem_cons_of_mem _ hq)
    have h2 := h p (by simp)
    rw [List.flatMap_cons, List.length_append, List.length_cons]
    omega
/-- What may be written is not long. -/
theorem write_small {ps : List PkgT} (h : wrongS ps = 0) (hs : ∀ p ∈ ps, ∀ i, ∀ d ∈ depsL p i, nparts d ≤ 1048576) : (writeB ps).length ≤ 140737488355328 := by
  obtain ⟨h1, h2⟩ := wrongS_ok h
  have h3 := sum_lines ps fun p hp => by
    obtain ⟨a, b⟩ := deps_le (h1 p hp)
    have := lines_len p
    have := a 0
    have := a 1
    have := a 2
    have := a 3
    have := a 4
    have := a 5
    have := a 6
    omega
  have h7 := flat_len (fun v : Wd => v ++ [10]) 2501 (ps.flatMap linesP) (fun v hv => by
    obtain ⟨p, hp, hv⟩ := List.mem_flatMap.1 hv
    have := line_small2 (h1 p hp) (hs p hp) v hv
    simp only [List.length_append, List.length_cons, List.length_nil]
    omega)
  unfold writeB
  have h9 : (ps.flatMap linesP).length * 2501 ≤ 26000 * 2501 := Nat.mul_le_mul_right _ (by omega)
  omega
theorem drop_cons_of {ps : List PkgT} {i : Nat} {p : PkgT} (h : ps[i]? = some p) : ps.drop i = p :: ps.drop (i + 1) := by
  obtain ⟨hi, rfl⟩ := List.getElem?_eq_some_iff.1 h
  exact List.drop_eq_getElem_cons hi
/-- The packages one by one. -/
theorem pkgs_each {w : World} {S : Nat → Prop} {ps : List PkgT} {a : Option Addr} {c : Nat} (h : PkgsV w S ps (.slice a ps.length c)) : ∀ i, i < ps.length → ∃ lb off, a = some ⟨lb, off, none⟩ ∧ S lb ∧ ∃ (p : PkgT) (pa : Fin 7 → Option Addr) (pc : Fin 7 → Nat) (pf : Option Addr) (pg : Nat), ps[i]? = some p ∧ PkgV w S p (fun i => .slice (pa i) (p.n i) (pc i)) (.slice pf p.files.length pg) ∧ CellsAt w lb (off + i * 12) (pkgCells p.name p.evr p.arch p.vendor (fun i => .slice (pa i) (p.n i) (pc i)) (.slice pf p.files.length pg)) := by
  intro i hi
  obtain ⟨a', c', e, _, hp⟩ := h
  injection e with e1 _ e3
  subst e1 e3
  obtain ⟨lb, off, ea, hlb, k1⟩ := hp (by intro e; rw [e] at hi; exact absurd hi (Nat.not_lt_zero _))
  obtain ⟨v1, f1, d1, g1⟩ := k1 i hi
  obtain ⟨xa, xc, rfl⟩ := d1.slices
  obtain ⟨xf, xg, hf, _⟩ := d1.files
  subst hf
  exact ⟨lb, off, ea, hlb, ps[i], xa, xc, xf, xg, List.getElem?_eq_getElem hi, d1, g1⟩
set_option maxHeartbeats 8000000 in
set_option maxRecDepth 100000 in
theorem write_bad (ps : List PkgT) (v : Value) (S : Nat → Prop) (w : World) (h : PkgsV w S ps v) (hS : ∀ b, S b → b < w.heap.size) (E : Int) (hE : wrongS ps = E) (hE0 : E ≠ 0) :
    Calls Tryz.prog 10 #[v] w fun e w' => e = .returned (.tuple #[.string ⟨#[]⟩, .int .i64 E]) ∧ Below w.heap.size w w' := by
  have h' := h
  obtain ⟨a, c, rfl, _, _⟩ := h'
  have HPK := Lib.hid (pkgs_each h)
  have HS := Lib.hid hS
  clear h hS
  unfold wrongS at hE
  by_cases hbig : 200 < ps.length
  · rw [if_pos hbig] at hE
    subst hE
    have g1 : (200 : Int) < (ps.length : Int) := by omega
    go_enter Tryz.func10, Tryz.ntmps10
    go_wp2_with fail
    refine bodyPost_ret (v := .tuple #[.string ⟨#[]⟩, .int .i64 131]) (by simp [results, Tryz.results10, go_sem]) rfl ?_
    exact ⟨rfl, Below.refl _ _⟩
  · rw [if_neg hbig] at hE
    have HE := Lib.hid hE
    have HE0 := Lib.hid hE0
    have qx1 : (E == 0) = false := by simpa using hE0
    have qx2 : (E != 0) = true := by rw [bne, qx1]; rfl
    have HEND : Hid (ps.drop ps.length = []) := Lib.hid List.drop_length
    obtain ⟨n, hnn⟩ : ∃ n, ps.length = n := ⟨_, rfl⟩
    rw [hnn] at HPK HEND hbig ⊢
    have g1 : ¬ (200 : Int) < (n : Int) := by omega
    clear hE hE0 hnn
    go_enter Tryz.func10, Tryz.ntmps10
    go_wp2_with fail
    go_loopg [27] n (fun gk vi wr => ∃ i : Nat, vi = .int .i64 i ∧ i ≤ n ∧ n ≤ i + gk ∧ Hid (Below w.heap.size w wr ∧ wrongP (ps.drop i) = E))
    case atStart => exact ⟨0, rfl, Nat.zero_le _, by omega, Below.refl _ _, HE.out⟩
    case round =>
      obtain ⟨i, rfl, hin, hik, HT⟩ := hrel
      by_cases hlt : i < n
      · have hi1 : (i : Int) < (n : Int) := by omega
        obtain ⟨lb, off, rfl, hlb, p, pa, pc, pf, pg, hpi, hv, hcs⟩ := HPK.out i hlt
        have HC : Hid (∀ W : World, Below w.heap.size w W → _) := Lib.hid fun W hb => check_c p pa pc pf p.files.length pg S W (hv.below hb) (fun b h' => Nat.lt_of_lt_of_le (HS.out b h') hb.size)
        have hc2 := hcs.keep (HT.out.1.block lb (HS.out lb hlb))
        have q0 : wr.cell? ⟨lb, off + i * 12, none⟩ = some (.string p.name) := hc2 0 _ rfl
        have q1 := hc2 1 _ rfl
        have q2 := hc2 2 _ rfl
        have q3 := hc2 3 _ rfl
        have q4 := hc2 4 _ rfl
        have q5 := hc2 5 _ rfl
        have q6 := hc2 6 _ rfl
        have q7 := hc2 7 _ rfl
        have q8 := hc2 8 _ rfl
        have q9 := hc2 9 _ rfl
        have q10 := hc2 10 _ rfl
        have q11 := hc2 11 _ rfl
        have hdr := HT.out.2
        rw [drop_cons_of hpi, wrongP] at hdr
        have HDR := Lib.hid hdr
        clear hc2 hcs hv hpi hdr
        generalize p.files.length = nf at *
        go_wp2_with fail
        refine (HC.out _ (HT.out.1.trans ((below1 wr _).mono HT.out.1.size))).mono ?_
        rintro e w5 ⟨rfl, hb5⟩
        have HB5 : Hid (Below w.heap.size w w5) := Lib.hid ((HT.out.1.trans ((below1 wr _).mono HT.out.1.size)).trans (hb5.mono (by simp; have := HT.out.1.size; omega)))
        clear hb5 q0 q1 q2 q3 q4 q5 q6 q7 q8 q9 q10 q11 HC
        by_cases hp0 : pkgCheck p = 0
        · have HN0 : Hid (wrongP (ps.drop (i + 1)) = E) := Lib.hid (by
            have h1 := HDR.out
            rw [if_neg (by simpa using hp0)] at h1
            exact h1)
          rw [hp0]
          clear HDR hp0
          go_wp2_with fail
          go_roundg (gk - 1)
          case measure => omega
          case rel => exact ⟨i + 1, by go_num, by omega, by omega, HB5.out, HN0.out⟩
        · have hpe : pkgCheck p = E := by
            have h1 := HDR.out
            rw [if_pos hp0] at h1
            exact h1
          rw [hpe]
          clear HDR hp0 hpe
          go_wp2_with fail
          refine bodyPost_ret (v := .tuple #[.string ⟨#[]⟩, .int .i64 E]) (by simp [results, Tryz.results10, go_sem]) rfl ?_
          exact ⟨rfl, HB5.out⟩
      · obtain rfl : i = n := by omega
        have h1 := HT.out.2
        rw [HEND.out] at h1
        exact absurd h1.symm HE0.out
set_option maxHeartbeats 1000000 in
set_option maxRecDepth 100000 in
theorem fits_c (nm ev ar ve : ByteArray) (a : Fin 7 → Option Addr) (n c : Fin 7 → Nat) (af : Option Addr) (nf cf : Nat) (w : World) (hn : nm.size ≠ 0) :
    Calls Tryz.prog 35 #[.agg #[.string nm, .string ev, .string ar, .string ve, .slice (a 0) (n 0) (c 0), .slice (a 1) (n 1) (c 1), .slice (a 2) (n 2) (c 2), .slice (a 3) (n 3) (c 3), .slice (a 4) (n 4) (c 4), .slice (a 5) (n 5) (c 5), .slice (a 6) (n 6) (c 6), .slice af nf cf]] w fun e w' => e = .returned (.bool true) ∧ Below w.heap.size w w' := by
  obtain ⟨w1, e1⟩ : ∃ w1, w.alloc (.cells #[.string nm, .string ev, .string ar, .string ve, .slice (a 0) (n 0) (c 0), .slice (a 1) (n 1) (c 1), .slice (a 2) (n 2) (c 2), .slice (a 3) (n 3) (c 3), .slice (a 4) (n 4) (c 4), .slice (a 5) (n 5) (c 5), .slice (a 6) (n 6) (c 6), .slice af nf cf] 36) = w1 := ⟨_, rfl⟩
  have HB1 : Hid (Below w.heap.size w w1 ∧ BoxN w1 w.heap.size [.string nm, .string ev, .string ar, .string ve, .slice (a 0) (n 0) (c 0), .slice (a 1) (n 1) (c 1), .slice (a 2) (n 2) (c 2), .slice (a 3) (n 3) (c 3), .slice (a 4) (n 4) (c 4), .slice (a 5) (n 5) (c 5), .slice (a 6) (n 6) (c 6), .slice af nf cf] 36) := by
    rw [← e1]
    exact ⟨below1 _ _, boxN_alloc _ _ _⟩
  have p0 := HB1.out.2.cell (j := 0) rfl
  have hne : (nm.toList == ([] : List UInt8)) = false := by
    rw [bs_toList]
    have : bs nm ≠ [] := fun e => hn (by rw [← bs_length, e]; rfl)
    simpa using this
  have hne2 : (nm.toList != ([] : List UInt8)) = true := by rw [bne, hne]; rfl
  have hne3 : nm.toList.isEmpty = false := by
    rw [bs_toList]
    cases h : bs nm with
    | nil => exact absurd (by rw [← bs_length, h]; rfl) hn
    | cons _ _ => rfl
  clear hn
  go_enter Tryz.func35, Tryz.ntmps35
  go_wp2_with fail
  go_ret
  exact ⟨rfl, HB1.out.1⟩
set_option maxHeartbeats 8000000 in
set_option maxRecDepth 100000 in
/-- What Write refuses packages for. -/
theorem wrong_c (ps : List PkgT) (v : Value) (S : Nat → Prop) (w : World) (h : PkgsV w S ps v) (hS : ∀ b, S b → b < w.heap.size) :
    Calls Tryz.prog 11 #[v] w fun e w' => e = .returned (.int .i64 (wrongS ps)) ∧ Below w.heap.size w w' := by
  have h' := h
  obtain ⟨a, c, rfl, _, _⟩ := h'
  have HPK := Lib.hid (pkgs_each h)
  have HS := Lib.hid hS
  clear h hS
  unfold wrongS
  by_cases hbig : 200 < ps.length
  · rw [if_pos hbig]
    have g1 : (200 : Int) < (ps.length : Int) := by omega
    go_enter Tryz.func11, Tryz.ntmps11
    go_wp2_with fail
    go_ret
    exact ⟨rfl, Below.refl _ _⟩
  · rw [if_neg hbig]
    obtain ⟨E, hE⟩ : ∃ E, wrongP ps = E := ⟨_, rfl⟩
    rw [hE]
    have HE := Lib.hid hE
    have HEND : Hid (ps.drop ps.length = []) := Lib.hid List.drop_length
    have HNM : Hid (E = 0 → ∀ p ∈ ps, p.name.size ≠ 0) := Lib.hid fun h p hp => by
      have h1 := (check_parts (wrongP_ok (hE.trans h) p hp)).1
      unfold nameB at h1
      simp only [Bool.and_eq_true, decide_eq_true_eq] at h1
      exact h1.1.1.1.1.1.1.1
    obtain ⟨n, hnn⟩ : ∃ n, ps.length = n := ⟨_, rfl⟩
    rw [hnn] at HPK HEND hbig ⊢
    have g1 : ¬ (200 : Int) < (n : Int) := by omega
    clear hE hnn
    go_enter Tryz.func11, Tryz.ntmps11
    go_wp2_with fail
    go_loopg [3] n (fun gk vi wr => ∃ i : Nat, vi = .int .i64 i ∧ i ≤ n ∧ n ≤ i + gk ∧ Hid (Below w.heap.size w wr ∧ wrongP (ps.drop i) = E))
    case atStart => exact ⟨0, rfl, Nat.zero_le _, by omega, Below.refl _ _, HE.out⟩
    case round =>
      obtain ⟨i, rfl, hin, hik, HT⟩ := hrel
      obtain ⟨wa, rfl⟩ : ∃ x : World, x = wr := ⟨_, rfl⟩
      by_cases hlt : i < n
      · have hi1 : (i : Int) < (n : Int) := by omega
        obtain ⟨lb, off, rfl, hlb, p, pa, pc, pf, pg, hpi, hv, hcs⟩ := HPK.out i hlt
        have HC := Lib.hid (rcheck_c p pa pc pf p.files.length pg S wa (hv.below HT.out.1))
        have hc2 := hcs.keep (HT.out.1.block lb (HS.out lb hlb))
        have q0 : wa.cell? ⟨lb, off + i * 12, none⟩ = some (.string p.name) := hc2 0 _ rfl
        have q1 := hc2 1 _ rfl
        have q2 := hc2 2 _ rfl
        have q3 := hc2 3 _ rfl
        have q4 := hc2 4 _ rfl
        have q5 := hc2 5 _ rfl
        have q6 := hc2 6 _ rfl
        have q7 := hc2 7 _ rfl
        have q8 := hc2 8 _ rfl
        have q9 := hc2 9 _ rfl
        have q10 := hc2 10 _ rfl
        have q11 := hc2 11 _ rfl
        have hdr := HT.out.2
        rw [drop_cons_of hpi, wrongP] at hdr
        have HDR := Lib.hid hdr
        clear hc2 hcs hv hpi hdr
        generalize p.files.length = nf at *
        go_wp2_with fail
        refine HC.out.mono ?_
        rintro e w5 ⟨rfl, hb5⟩
        have HB5 : Hid (Below w.heap.size w w5) := Lib.hid (HT.out.1.trans (hb5.mono HT.out.1.size))
        clear hb5 q0 q1 q2 q3 q4 q5 q6 q7 q8 q9 q10 q11 HC
        by_cases hp0 : pkgCheck p = 0
        · have HN0 : Hid (wrongP (ps.drop (i + 1)) = E) := Lib.hid (by
            have h1 := HDR.out
            rw [if_neg (by simpa using hp0)] at h1
            exact h1)
          rw [hp0]
          clear HDR hp0
          go_wp2_with fail
          go_roundg (gk - 1)
          case measure => omega
          case rel => exact ⟨i + 1, by go_num, by omega, by omega, HB5.out, HN0.out⟩
        · have hpe : pkgCheck p = E := by
            have h1 := HDR.out
            rw [if_pos hp0] at h1
            exact h1
          have qx1 : (E == 0) = false := by rw [← hpe]; simpa using hp0
          have qx2 : (E != 0) = true := by rw [bne, qx1]; rfl
          rw [hpe]
          clear HDR hp0 hpe
          go_wp2_with fail
          go_ret
          exact ⟨rfl, HB5.out⟩
      · obtain rfl : i = n := by omega
        have hi1 : ¬ (i : Int) < (i : Int) := by omega
        obtain rfl : E = 0 := by
          have h1 := HT.out.2
          rw [HEND.out] at h1
          exact h1.symm
        have HNZ := Lib.hid (HNM.out rfl)
        go_wp2_with fail
        go_loopg [5] i (fun gk vi wr => ∃ j : Nat, vi = .int .i64 j ∧ j ≤ i ∧ i ≤ j + gk ∧ Hid (Below w.heap.size w wr))
        case atStart => exact ⟨0, rfl, Nat.zero_le _, by omega, HT.out.1⟩
        case round =>
          obtain ⟨j, rfl, hjn, hjk, HU⟩ := hrel
          obtain ⟨wb, rfl⟩ : ∃ x : World, x = wr := ⟨_, rfl⟩
          by_cases hlt2 : j < i
          · have hj1 : (j : Int) < (i : Int) := by omega
            obtain ⟨lb, off, rfl, hlb, p, pa, pc, pf, pg, hpi, hv, hcs⟩ := HPK.out j hlt2
            have HC := Lib.hid (fits_c p.name p.evr p.arch p.vendor pa p.n pc pf p.files.length pg wb (HNZ.out p (List.mem_of_getElem? hpi)))
            have hc2 := hcs.keep (HU.out.block lb (HS.out lb hlb))
            have q0 : wb.cell? ⟨lb, off + j * 12, none⟩ = some (.string p.name) := hc2 0 _ rfl
            have q1 := hc2 1 _ rfl
            have q2 := hc2 2 _ rfl
            have q3 := hc2 3 _ rfl
            have q4 := hc2 4 _ rfl
            have q5 := hc2 5 _ rfl
            have q6 := hc2 6 _ rfl
            have q7 := hc2 7 _ rfl
            have q8 := hc2 8 _ rfl
            have q9 := hc2 9 _ rfl
            have q10 := hc2 10 _ rfl
            have q11 := hc2 11 _ rfl
            clear hc2 hcs hv hpi
            generalize p.files.length = nf at *
            go_wp2_with fail
            refine HC.out.mono ?_
            rintro e w5 ⟨rfl, hb5⟩
            have HB5 : Hid (Below w.heap.size w w5) := Lib.hid (HU.out.trans (hb5.mono HU.out.size))
            clear hb5 q0 q1 q2 q3 q4 q5 q6 q7 q8 q9 q10 q11 HC
            go_wp2_with fail
            go_roundg (gk - 1)
            case measure => omega
            case rel => exact ⟨j + 1, by go_num, by omega, by omega, HB5.out⟩
          · have hj1 : ¬ (j : Int) < (i : Int) := by omega
            go_wp2_with fail
            go_ret
            exact ⟨rfl, HU.out⟩
end Go.Proofs.YtjcefgjgjhdbpaaGreatDoor
