/-
  Packages that are read: each may be, and their text is not long. Plain words; no conditions beyond those typed.
  What is read, written and read again: the walk. Helper text; the conditions are those typed.
-/
import Derived.Test.YtjcefgjgjhdbpaaGreatDoorDepNum
import Derived.Test.YtjcefgjgjhdbpaaGreatDoorWrtB
import Derived.Test.YtjcefgjgjhdbpaaGreatDoorParB
import Derived.Test.YtjcefgjgjhdbpaaGreatDoorSuseJoin
import Derived.Test.YtjcefgjgjhdbpaaGreatDoorLawX
namespace Go.Proofs.YtjcefgjgjhdbpaaGreatDoor
set_option linter.unusedVariables false
set_option linter.unusedSimpArgs false

def SmallD (p : PkgT) : Prop := ∀ i, ∀ d ∈ depsL p i, nparts d ≤ 40000
def SmallS (p : SP) : Prop := ∀ i, ∀ d ∈ p.L i, nparts d ≤ 40000
def lnP (p : SP) : Nat := 2 + ((p.L 0).length + (p.L 1).length + (p.L 2).length + (p.L 3).length + (p.L 4).length + (p.L 5).length + (p.L 6).length) + p.files.length
theorem lines_len (p : PkgT) : (linesP p).length ≤ 2 + (p.n 0 + p.n 1 + p.n 2 + p.n 3 + p.n 4 + p.n 5 + p.n 6) + p.files.length := by
  unfold linesP
  have e : List.finRange 7 = [0, 1, 2, 3, 4, 5, 6] := rfl
  rw [e]
  by_cases h : p.vendor.size = 0
  · rw [if_pos h]
    simp [depsL]
    omega
  · rw [if_neg h]
    simp [depsL]
    omega
theorem lines_pkg (p : SP) : (linesP p.pkg).length ≤ lnP p := lines_len p.pkg
theorem deps_pkg (p : SP) (i : Fin 7) : depsL p.pkg i = p.L i := by
  unfold depsL
  refine List.ext_getElem (by simp [SP.pkg]) fun j h1 h2 => ?_
  simp [SP.pkg]
theorem small_pkg {p : SP} (h : SmallS p) : SmallD p.pkg := fun i d hd => by
  rw [deps_pkg] at hd
  exact h i d hd
def sumN (l : List PkgT) : Nat := (l.flatMap linesP).length
theorem sumN_append (a b : List PkgT) : sumN (a ++ b) = sumN a + sumN b := by unfold sumN; rw [List.flatMap_append, List.length_append]
def curN (st : SSt) : Nat := match st.cur with
  | none => 0
  | some p => lnP p
structure GoodS (st : SSt) (c : Nat) : Prop where
  out : ∀ p ∈ st.out, pkgCheck p = 0 ∧ SmallD p
  cur : ∀ p, st.cur = some p → SmallS p
  num : sumN st.out + curN st ≤ c
theorem GoodS.more {st : SSt} {c c' : Nat} (h : GoodS st c) (hc : c ≤ c') : GoodS st c' := ⟨h.out, h.cur, Nat.le_trans h.num hc⟩
theorem whole_good {st : SSt} {c : Nat} (h : GoodS st c) (h0 : (wholeS st).2 = 0) : (∀ p ∈ (wholeS st).1, pkgCheck p = 0 ∧ SmallD p) ∧ sumN (wholeS st).1 ≤ c := by
  cases hp : st.cur with
  | none =>
    rw [whole_none hp]
    exact ⟨h.out, by have := h.num; show sumN st.out ≤ c; omega⟩
  | some p =>
    rw [whole_some hp] at h0 ⊢
    by_cases hk : pkgCheck p.pkg = 0
    · rw [if_pos hk]
      refine ⟨fun q hq => ?_, ?_⟩
      · rcases List.mem_append.1 hq with hq | hq
        · exact h.out q hq
        · rw [List.mem_singleton] at hq
          subst hq
          exact ⟨hk, small_pkg (h.cur p hp)⟩
      · show sumN (st.out ++ [p.pkg]) ≤ c
        have h1 := h.num
        have h2 : curN st = lnP p := by unfold curN; rw [hp]
        have h3 := lines_pkg p
        have h4 : sumN [p.pkg] = (linesP p.pkg).length := by unfold sumN; simp
        rw [sumN_append]
        omega
    · rw [if_neg hk] at h0
      exact absurd h0 hk
theorem pack_good {st st' : SSt} {v : Wd} {c : Nat} (h : GoodS st c) (e : packS st v = .ok st') : GoodS st' (c + 2) := by
  obtain ⟨h1, h2, _, a, b, c', d, _, h3⟩ := pack_ok e
  obtain ⟨h4, h5⟩ := whole_good h h1
  refine ⟨by rw [h2]; exact h4, fun p hp => ?_, ?_⟩
  · rw [h3] at hp
    injection hp with hp
    subst hp
    intro i d hd
    cases hd
  · have : curN st' = 2 := by unfold curN; rw [h3]; rfl
    rw [h2, this]
    omega
theorem putP_good {p q : SP} {t v : Wd} (hv : v.length ≤ 40000) (h : SmallS p) (e : putP p t v = some q) : SmallS q ∧ lnP q ≤ lnP p + 1 := by
  unfold putP at e
  split at e
  · injection e with e
    subst e
    exact ⟨h, by unfold lnP; simp⟩
  · split at e
    · injection e with e
      subst e
      refine ⟨h, ?_⟩
      unfold lnP
      simp
      omega
    · split at e
      · injection e with e
        subst e
        exact ⟨h, by omega⟩
      · rename_i j hj
        split at e
        · cases e
        · rename_i h0
          injection e with e
          subst e
          have hn := depParse_num (s := mkB v) (by simpa using h0)
          rw [← bs_length, bs_mkB] at hn
          refine ⟨fun i d hd => ?_, ?_⟩
          · unfold SP.add at hd
            simp only at hd
            split at hd
            · rcases List.mem_append.1 hd with hd | hd
              · exact h i d hd
              · rw [List.mem_singleton] at hd
                subst hd
                omega
            · exact h i d hd
          · unfold lnP SP.add
            have hf : ∀ i : Fin 7, (if i = j then p.L i ++ [(depParse (mkB v)).1] else p.L i).length = (p.L i).length + (if i = j then 1 else 0) := fun i => by
              split <;> simp
            simp only [hf]
            match j with
            | 0 => simp; omega
            | 1 => simp; omega
            | 2 => simp; omega
            | 3 => simp; omega
            | 4 => simp; omega
            | 5 => simp; omega
            | 6 => simp; omega
theorem put_good {st st' : SSt} {t v : Wd} {c : Nat} (hv : v.length ≤ 40000) (h : GoodS st c) (e : putS st t v = .ok st') : GoodS st' (c + 2) := by
  obtain ⟨h1, h2, h3⟩ := put_ok e
  cases hp : st.cur with
  | none => rw [h2 hp]; exact h.more (by omega)
  | some p =>
    obtain ⟨q, h4, h5⟩ := h3 p hp
    obtain ⟨h6, h7⟩ := putP_good hv (h.cur p hp) h4
    subst h5
    refine ⟨h.out, fun r hr => ?_, ?_⟩
    · injection hr with hr
      subst hr
      exact h6
    · have h8 := h.num
      have h9 : curN st = lnP p := by unfold curN; rw [hp]
      show sumN st.out + lnP q ≤ c + 2
      omega
theorem strip1_lenG (v : Wd) : (strip1 v).length ≤ v.length := by
  unfold strip1
  split
  · split <;> simp
  · simp
theorem one_good {st st' : SSt} {t v : Wd} {c : Nat} (hv : v.length ≤ 40000) (h : GoodS st c) (e : oneS st t v = .ok st') : GoodS st' (c + 2) := by
  have hv' := Nat.le_trans (strip1_lenG v) hv
  unfold oneS at e
  split at e
  · exact pack_good h e
  · split at e
    · split at e
      · injection e with e
        subst e
        exact h.more (by omega)
      · cases e
    · exact put_good hv' h e
theorem goR_ok {m m' : Option Wd} {r : SRes} {st' : SSt} (h : goR m r = .go m' st') : r = .ok st' := by
  cases r with
  | err e => cases h
  | ok s => injection h with _ h; rw [h]
theorem step_good {m m' : Option Wd} {s : Wd} {st st' : SSt} {c : Nat} (hs : s.length ≤ 40000) (h : GoodS st c) (e : stepS m s st = .go m' st') : GoodS st' (c + 2) := by
  cases m with
  | none =>
    have e : stepN s st = .go m' st' := e
    unfold stepN at e
    split at e
    · injection e with _ e
      subst e
      exact h.more (by omega)
    · split at e
      · cases e
      · rename_i t rest ht
        have hl := (tagOf_len ht).2
        split at e
        · exact one_good (Nat.le_trans hl hs) h (goR_ok e)
        · split at e
          · injection e with _ e
            subst e
            exact h.more (by omega)
          · cases e
  | some t =>
    have e : stepB t s st = .go m' st' := e
    unfold stepB at e
    split at e
    · injection e with _ e
      subst e
      exact h.more (by omega)
    · split at e
      · injection e with _ e
        subst e
        exact h.more (by omega)
      · exact put_good hs h (goR_ok e)
theorem run_good : ∀ (l : List Wd) (m m' : Option Wd) (st st' : SSt) (c : Nat), (∀ s ∈ l, s.length ≤ 40000) → GoodS st c → runL m l st = .go m' st' → GoodS st' (c + 2 * l.length)
  | [], m, m', st, st', c, _, h, e => by
    injection e with _ e
    subst e
    exact h
  | s :: l, m, m', st, st', c, hl, h, e => by
    unfold runL at e
    cases hs : stepS m s st with
    | err x => rw [hs] at e; cases e
    | go m1 st1 =>
      rw [hs] at e
      have h1 := run_good l m1 m' st1 st' (c + 2) (fun s hs => hl s (List.mem_cons_of_mem _ hs)) (step_good (hl s (by simp)) h hs) e
      rw [List.length_cons]
      exact h1.more (by omega)
theorem linesF_num : ∀ (n : Nat) (l : Wd), (linesF n l).length ≤ n ∧ ∀ s ∈ linesF n l, s.length ≤ l.length
  | 0, l => ⟨Nat.le_refl _, fun s hs => by cases hs⟩
  | n + 1, l => by
    unfold linesF
    split
    · exact ⟨Nat.zero_le _, fun s hs => by cases hs⟩
    · rename_i h
      obtain ⟨h1, h2⟩ := linesF_num n (restOf l)
      refine ⟨by rw [List.length_cons]; omega, fun s hs => ?_⟩
      rcases List.mem_cons.1 hs with rfl | hs
      · exact (List.takeWhile_prefix _).length_le
      · cases l with
        | nil => exact absurd rfl h
        | cons c t =>
          have h3 := h2 s hs
          have h4 := restOf_len c t
          rw [List.length_cons]
          omega
theorem line_small {p : PkgT} (h : pkgCheck p = 0) (hs : SmallD p) : ∀ v ∈ linesP p, v.length ≤ 2500 := by
  obtain ⟨h1, h2, h3, h4, h5, h6⟩ := check_parts h
  obtain ⟨z1, z2, z3, z4⟩ := sizes_of ⟨h1, h2, h3, h4⟩
  intro v hv
  unfold linesP at hv
  rcases List.mem_cons.1 hv with rfl | hv
  · have h7 : (verRel (bs p.evr)).1.length ≤ 60 ∧ (verRel (bs p.evr)).2.length ≤ 60 := by
      unfold verRel
      cases li 45 (bs p.evr) with
      | none => exact ⟨by rw [bs_length]; exact z2, by show [(45 : UInt8)].length ≤ 60; decide⟩
      | some j =>
        refine ⟨?_, ?_⟩
        · simp only [List.length_take, bs_length]
          omega
        · simp only [List.length_drop, bs_length]
          omega
    unfold lineV valP pkgW
    simp only [List.length_cons, List.length_append, List.length_nil, bs_length]
    omega
  · rcases List.mem_append.1 hv with hv | hv
    · split at hv
      · cases hv
      · rw [List.mem_singleton] at hv
        subst hv
        unfold lineV vndW
        simp only [List.length_cons, List.length_append, List.length_nil, bs_length]
        omega
    · rcases List.mem_append.1 hv with hv | hv
      · obtain ⟨i, _, hv⟩ := List.mem_flatMap.1 hv
        obtain ⟨d, hd, rfl⟩ := List.mem_map.1 hv
        have h7 := print_small (h5 i d hd) (by have := hs i d hd; omega)
        have h8 : (tagI i).length ≤ 3 := by
          have : ∀ i : Fin 7, (tagI i).length ≤ 3 := by decide
          exact this i
        unfold lineV
        simp only [List.length_cons, List.length_append, List.length_nil]
        omega
      · obtain ⟨f, hf, rfl⟩ := List.mem_map.1 hv
        have h7 := (name_parts (h6 f hf)).2.1
        unfold lineV flsW
        simp only [List.length_cons, List.length_append, List.length_nil, bs_length]
        omega
/-- What Parse reads. -/
theorem parse_good {s : ByteArray} {ps : List PkgT} (h : suseParse s = (ps, 0)) : (∀ p ∈ ps, pkgCheck p = 0) ∧ ps.length ≤ 200 ∧ (writeB ps).length ≤ 140737488355328 := by
  unfold suseParse at h
  split at h
  · injection h with _ h
    cases h
  · rename_i hz
    have hi : Inv ⟨[], none⟩ := rfl
    obtain ⟨s1, h1, h2, h3⟩ := run_state _ _ _ _ hi h
    obtain ⟨l1, l2⟩ := linesF_num (bs s).length (bs s)
    rw [bs_length] at l1 l2
    have l1 : (linesB (bs s)).length ≤ s.size := by unfold linesB; rw [bs_length]; exact l1
    have hg : GoodS ⟨[], none⟩ 0 := ⟨(fun p hp => (by cases hp)), (fun p hp => (by cases hp)), Nat.le_refl _⟩
    have h4 := run_good _ _ _ _ _ 0 (fun v hv => by
      unfold linesB at hv
      rw [bs_length] at hv
      have := l2 v hv
      omega) hg h1
    obtain ⟨h5, h6⟩ := whole_good h4 (by rw [h2])
    rw [h2] at h5 h6
    refine ⟨fun p hp => (h5 p hp).1, whole_len h3 h2, ?_⟩
    have h7 := flat_len (fun v : Wd => v ++ [10]) 2501 (ps.flatMap linesP) (fun v hv => by
      obtain ⟨p, hp, hv⟩ := List.mem_flatMap.1 hv
      have := line_small (h5 p hp).1 (h5 p hp).2 v hv
      simp only [List.length_append, List.length_cons, List.length_nil]
      omega)
    unfold writeB
    have h8 : (ps.flatMap linesP).length ≤ 80000 := by
      have h6 : sumN ps ≤ 0 + 2 * (linesB (bs s)).length := h6
      have : sumN ps = (ps.flatMap linesP).length := rfl
      omega
    have h9 : (ps.flatMap linesP).length * 2501 ≤ 80000 * 2501 := Nat.mul_le_mul_right _ h8
    omega
theorem run_bad : ∀ (l : List Wd) (m : Option Wd) (st : SSt) (a : List PkgT) (x : Int), runS m l st = (a, x) → x ≠ 0 → a = []
  | [], none, st, a, x, h, hx => by
    have h : endS st = (a, x) := h
    unfold endS at h
    split at h
    · injection h with h _
      exact h.symm
    · injection h with _ h
      exact absurd h.symm hx
  | [], some t, st, a, x, h, hx => by
    injection h with h _
    exact h.symm
  | s :: l, m, st, a, x, h, hx => by
    rw [runS_cons] at h
    cases hs : stepS m s st with
    | err y => rw [hs] at h; injection h with h _; exact h.symm
    | go m1 st1 => rw [hs] at h; exact run_bad l m1 st1 a x h hx
theorem parse_bad {s : ByteArray} {ps : List PkgT} {x : Int} (h : suseParse s = (ps, x)) (hx : x ≠ 0) : ps = [] := by
  unfold suseParse at h
  split at h
  · injection h with h _
    exact h.symm
  · exact run_bad _ _ _ _ _ h hx
end Go.Proofs.YtjcefgjgjhdbpaaGreatDoor
namespace Go.Proofs.YtjcefgjgjhdbpaaGreatDoor
set_option linter.unusedVariables false
set_option linter.unusedSimpArgs false
open Go.RowKit Go.Maps

set_option maxHeartbeats 8000000 in
set_option maxRecDepth 1000000 in
theorem suseAgain_walk (s : ByteArray) (w : World) (h1 : s.size ≤ reachBytes) : Calls Tryz.prog 5 #[.string s] w fun e w' => e = .returned (.bool true) ∧ Below w.heap.size w w' := by
  have hr : reachBytes = 140737488351232 := rfl
  have hm : 1000000000000000000 ≤ maxLen := by decide
  have HAW := Lib.hid (awake_c w)
  have H1 := Lib.hid (fun W => sparse_c s (by omega) W)
  obtain ⟨⟨ps, x⟩, hP⟩ : ∃ x, suseParse s = x := ⟨_, rfl⟩
  rw [hP] at H1
  have HG : Hid (x = 0 → (∀ p ∈ ps, pkgCheck p = 0) ∧ ps.length ≤ 200 ∧ (writeB ps).length ≤ 140737488355328) := Lib.hid fun e => parse_good (by rw [hP, e])
  have HBAD : Hid (x ≠ 0 → ps = []) := Lib.hid fun e => parse_bad hP e
  have HM := Lib.hid hm
  clear hP hr hm h1
  go_enter Tryz.func5, Tryz.ntmps5
  go_wp2_with fail
  refine HAW.out.mono ?_
  rintro e0 w1 ⟨rfl, hb1⟩
  have HB1 := Lib.hid hb1
  clear hb1 HAW
  go_wp2_with fail
  refine (H1.out _).mono ?_
  rintro e2 w2 ⟨va, rfl, hb2, hp2⟩
  have HB2 := Lib.hid (below_tr HB1.out hb2)
  have HP2 := Lib.hid (hp2.keep (S' := (· < w2.heap.size)) (fun b hb => new_lt b hb) (fun _ _ _ => rfl))
  clear hb2 hp2 H1
  by_cases hx : x = 0
  · subst hx
    obtain ⟨g1, g2, g3⟩ := HG.out rfl
    have HW := Lib.hid (write_good ps va _ w2 HP2.out (fun b hb => hb) g1 g2 g3)
    have HPW := Lib.hid (fun h => parse_write g1 g2 h)
    have H3 := Lib.hid (fun W => sparse_c (mkB (writeB ps)) (by rw [← bs_length, bs_mkB]; have := HM.out; omega) W)
    have hsz : (mkB (writeB ps)).size = (writeB ps).length := by rw [← bs_length, bs_mkB]
    have HSZ := Lib.hid hsz
    clear g1 g2 g3 hsz
    obtain ⟨T, hT⟩ : ∃ T, mkB (writeB ps) = T := ⟨_, rfl⟩
    rw [hT] at HW HPW H3 HSZ
    clear hT
    go_wp2_with fail
    refine HW.out.mono ?_
    rintro e3 w3 ⟨rfl, hb3⟩
    have HB3 := Lib.hid hb3
    clear hb3 HW
    by_cases hl : 40000 < T.size
    · have hl1 : (40000 : Int) < (T.size : Int) := by omega
      go_wp2_with fail
      go_ret
      exact ⟨rfl, below_tr HB2.out HB3.out⟩
    · have hl1 : ¬ (40000 : Int) < (T.size : Int) := by omega
      have hpw := HPW.out (by have := HSZ.out; omega)
      rw [hpw] at H3
      clear hpw
      go_wp2_with fail
      refine (H3.out _).mono ?_
      rintro e4 w4 ⟨vb, rfl, hb4, hp4⟩
      have HB4 := Lib.hid hb4
      have HSM := Lib.hid (sameList_c ps va vb _ _ w4 (HP2.out.low (fun b hb => hb) ((HB3.out.trans (hb4.mono HB3.out.size)))) hp4)
      clear hb4 hp4 H3
      go_wp2_with fail
      refine HSM.out.mono ?_
      rintro e5 w5 ⟨rfl, hb5⟩
      have HB5 := Lib.hid hb5
      clear hb5 HSM
      go_wp2_with fail
      go_ret
      exact ⟨rfl, below_tr (below_tr (below_tr HB2.out HB3.out) HB4.out) HB5.out⟩
  · have hn := HBAD.out hx
    subst hn
    obtain ⟨xa, ca, rfl, _⟩ := HP2.out
    obtain ⟨g1, g2⟩ := ne0 hx
    go_wp2_with fail
    go_ret
    exact ⟨by simp, HB2.out⟩
end Go.Proofs.YtjcefgjgjhdbpaaGreatDoor
