/-
  Two lists merged: the contract, for each of the three functions handed in. Helper text; the conditions are those typed.
-/
import Derived.Test.YtieahneoofdneaaWalkG
namespace Go.Proofs.Ytieahneoofdneaa
set_option linter.unusedVariables false
set_option linter.unusedSimpArgs false
open Go.RowKit Go.Maps Go.Shelf Go.Sort

def lenOfV : Value → Nat
  | .slice _ n _ => n
  | _ => 0

/-- What the loop knows of the two rests and of what has been kept. -/
def MrgAt (st : Bool → Bool → Bool) (T : List Int) (w0 : World) (N : Nat) (A B : Option Addr) (na ca nb cb : Nat) (vo : Value) (wr : World) (xs ys os : List Int) : Prop :=
  CutI w0 A na ca xs ∧ CutI w0 B nb cb ys ∧ OwnI w0 vo os wr ∧ os ++ mrg st xs ys = T ∧ os.length + na + nb ≤ N

theorem OwnI.drewN {w0 w : World} {v : Value} {l : List Int} (h : OwnI w0 v l w) (q : Nat) : OwnI w0 v l (w.drewN q) := ⟨h.1, Below.dr h.2 q⟩

theorem cell_below {w w' : World} {p : Addr} {v : Value} (hb : Below w.heap.size w w') (h : w.cell? p = some v) : w'.cell? p = some v :=
  (World.cell?_of_block (w := w) (hb.block _ (World.block_lt_of_cell? w _ h))).trans h

theorem CutI.head {w : World} {A : Option Addr} {n c : Nat} {x : Int} {xs : List Int} (h : CutI w A n c (x :: xs)) : ∃ b off, A = some ⟨b, off, none⟩ ∧ w.cell? ⟨b, off, none⟩ = some (.int .i64 x) := by
  obtain ⟨b, off, e, hc⟩ := h.2.1.cell (k := 0) (by simp)
  exact ⟨b, off, e, hc⟩
theorem CutI.pos {w : World} {A : Option Addr} {n c : Nat} {x : Int} {xs : List Int} (h : CutI w A n c (x :: xs)) : 1 ≤ n := by
  have := h.1
  simp at this
  omega
theorem CutI.tail {w : World} {b off n c : Nat} {x : Int} {xs : List Int} (h : CutI w (some ⟨b, off, none⟩) n c (x :: xs)) : CutI w (if c = 1 then some ⟨b, off, none⟩ else some ⟨b, off + 1, none⟩) (n - 1) (c - 1) xs := by
  have := h.drop (k := 1) h.pos
  exact this

theorem CutI.tail2 {w : World} {b off n c : Nat} {x : Int} {xs : List Int} (h : CutI w (some ⟨b, off, none⟩) n c (x :: xs)) : ∃ T, (if c = 1 then (some ⟨b, off, none⟩ : Option Addr) else some ⟨b, off + 1, none⟩) = T ∧ CutI w T (n - 1) (c - 1) xs := ⟨_, rfl, h.tail⟩

theorem st_union (p q b : Bool) (h : stUnion p q = b) (w : World) : Calls Try.prog 29 #[.bool p, .bool q] w fun e w' => e = .returned (.bool b) ∧ w = w' := by
  cases h
  go_enter Try.func29, Try.ntmps29
  go_wp2
  go_ret
  exact ⟨rfl, rfl⟩
theorem st_meet (p q b : Bool) (h : stMeet p q = b) (w : World) : Calls Try.prog 30 #[.bool p, .bool q] w fun e w' => e = .returned (.bool b) ∧ w = w' := by
  cases h
  cases p
  all_goals
    go_enter Try.func30, Try.ntmps30
    go_wp2
    go_ret
    exact ⟨rfl, rfl⟩
theorem st_minus (p q b : Bool) (h : stMinus p q = b) (w : World) : Calls Try.prog 32 #[.bool p, .bool q] w fun e w' => e = .returned (.bool b) ∧ w = w' := by
  cases h
  go_enter Try.func32, Try.ntmps32
  go_wp2
  go_ret
  exact ⟨rfl, rfl⟩

theorem mrg_l {st : Bool → Bool → Bool} {x : Int} {us os T : List Int} (h : os ++ mrg st (x :: us) [] = T) : (os ++ opt (st true false) x) ++ mrg st us [] = T := by rw [← h, mrg, List.append_assoc]
theorem mrg_r {st : Bool → Bool → Bool} {y : Int} {vs os T : List Int} (h : os ++ mrg st [] (y :: vs) = T) : (os ++ opt (st false true) y) ++ mrg st [] vs = T := by rw [← h, mrg, List.append_assoc]
theorem mrg_lt {st : Bool → Bool → Bool} {x y : Int} {us vs os T : List Int} (h : os ++ mrg st (x :: us) (y :: vs) = T) (hxy : x < y) : (os ++ opt (st true false) x) ++ mrg st us (y :: vs) = T := by rw [← h, mrg, if_pos hxy, List.append_assoc]
theorem mrg_gt {st : Bool → Bool → Bool} {x y : Int} {us vs os T : List Int} (h : os ++ mrg st (x :: us) (y :: vs) = T) (hxy : y < x) : (os ++ opt (st false true) y) ++ mrg st (x :: us) vs = T := by rw [← h, mrg, if_neg (by omega), if_pos hxy, List.append_assoc]
theorem mrg_eq {st : Bool → Bool → Bool} {x : Int} {us vs os T : List Int} (h : os ++ mrg st (x :: us) (x :: vs) = T) : (os ++ opt (st true true) x) ++ mrg st us vs = T := by rw [← h, mrg, if_neg (by omega), if_neg (by omega), List.append_assoc]

set_option maxHeartbeats 4000000 in
set_option maxRecDepth 100000 in
theorem merged_union {w : World} {A B : Option Addr} {na ca nb cb : Nat} {xs ys : List Int} (ha : CutI w A na ca xs) (hb : CutI w B nb cb ys) (hl : (na + nb) * 8 ≤ 140737488355328) :
    Calls Try.prog 28 #[.slice A na ca, .slice B nb cb, .func (.func 29) #[] #[]] w fun e w' => ∃ v, e = .returned v ∧ OwnI w v (mergedOf stUnion xs ys) w' := by
  have hna := ha.1
  have hnb := hb.1
  subst hna hnb
  have HA := Lib.hid ha
  have HB := Lib.hid hb
  clear ha hb
  go_enter Try.func28, Try.ntmps28
  go_wp2_with fail
  refine (sort_in HA.out.2.1 ca (by omega)).mono ?_
  rintro e w1 ⟨v1, rfl, h1⟩
  have H1 := Lib.hid h1
  have HB1 := Lib.hid (HB.out.2.1.below h1.2)
  clear h1
  go_wp2_with fail
  refine (sort_in HB1.out cb (by omega)).mono ?_
  rintro e w2 ⟨v2, rfl, h2⟩
  obtain ⟨A1, n1, c1, rfl, s1⟩ := H1.out.sliceI.below h2.2
  obtain ⟨B1, m1, d1, rfl, s2⟩ := h2.sliceI
  have S1 := Lib.hid s1
  have S2 := Lib.hid s2
  have B2 := Lib.hid (H1.out.2.trans (Below.to h2.2 H1.out.2.size))
  have L1 : n1 ≤ xs.length := by have := s1.1; have := srtd_length xs; rw [srtd_eq] at *; omega
  have L2 : m1 ≤ ys.length := by have := s2.1; have := srtd_length ys; rw [srtd_eq] at *; omega
  clear H1 HB1 h2 s1 s2 HA HB
  go_wp2_with fail
  go_loopw [0, 1, 7] (fun va vb vo wr => ∃ (A B : Option Addr) (na ca nb cb : Nat) (g : Value), va = .slice A na ca ∧ vb = .slice B nb cb ∧ g = vo ∧ Hid (∃ us vs os, MrgAt stUnion (mergedOf stUnion xs ys) w2 (xs.length + ys.length) A B na ca nb cb g wr us vs os)) (fun va vb _ _ => lenOfV va + lenOfV vb)
  case atStart => exact ⟨A1, B1, n1, c1, m1, d1, _, rfl, rfl, rfl, ⟨_, _, [], S1.out, S2.out, OwnI.nil w2, rfl, by simp; omega⟩⟩
  case round =>
    obtain ⟨A, B, na, ca, nb, cb, g, rfl, rfl, rfl, HM⟩ := hrel
    obtain ⟨us, vs, os, ha, hb, ho, ht, hle⟩ := HM.out
    have hca : na ≤ ca := ha.2.2.1
    have hcam : ca ≤ 9223372036854775807 := ha.2.2.2
    have hcb : nb ≤ cb := hb.2.2.1
    have hcbm : cb ≤ 9223372036854775807 := hb.2.2.2
    have HO := Lib.hid ho
    clear ho
    rcases us with _ | ⟨x, us⟩
    · have hz : na = 0 := ha.1
      subst hz
      rcases vs with _ | ⟨y, vs⟩
      · have hz : nb = 0 := hb.1
        subst hz
        have HT := Lib.hid ht
        clear ha hb ht HM
        go_wp2
        go_ret
        exact ⟨_, rfl, by have h1 := HT.out; rw [mrg, List.append_nil] at h1; rw [← h1]; exact ⟨ownsRow_base HO.out.1 (fun g hg => by have h5 := (HO.out.1.lt g hg).1; have h6 := B2.out.size; omega), B2.out.trans (Below.to HO.out.2 B2.out.size)⟩⟩
      · obtain ⟨b2, o2, rfl, hy⟩ := hb.head
        have p2 := hb.pos
        have hyr := cell_below HO.out.2 hy
        have qb1 : ((nb : Int) == 0) = false := by simp; omega
        have qb2 : (0 : Int) < (nb : Int) := by omega
        have qb3 : decide (0 < nb) = true := by simp; omega
        have qb4 : (1 : Int) ≤ (nb : Int) := by omega
        obtain ⟨TB, hTB, htb⟩ := hb.tail2
        have HTB := Lib.hid htb
        have HA := Lib.hid ha
        have HB := Lib.hid hb
        clear ha hb hy htb
        have HT := Lib.hid (mrg_r ht)
        clear ht HM
        go_wp2
        go_quiet (fail)
        go_wp2
        go_quiet (fail)
        go_wp2
        go_quiet (fail)
        go_wp2_with fail
        refine (st_union _ _ true rfl _).mono ?_
        rintro e w3 ⟨rfl, rfl⟩
        go_wp2_with (at_builtin; refine wpList_appI (w0 := w2) rfl _ _ rfl g _ 1 1 os [y] rfl rfl (by first | exact (HO.out.alloc _).drewN _ | exact (HO.out.drewN _).alloc _) (by rfl) (by first | exact IntsAt.drewN (ints_new _ [y] 3) _ | exact ints_new _ [y] 3) (by simp; omega) ?_; intro v4 w4 h4 hg4; have H4 := Lib.hid h4; clear h4 hg4)
        go_roundw
        case rel => exact ⟨_, _, _, _, _, _, _, rfl, rfl, rfl, ⟨[], vs, os ++ [y], HA.out, HTB.out, H4.out, HT.out, by simp; omega⟩⟩
        case measure => simp [lenOfV]; omega
    · rcases vs with _ | ⟨y, vs⟩
      · have hz : nb = 0 := hb.1
        subst hz
        obtain ⟨b1, o1, rfl, hx⟩ := ha.head
        have p1 := ha.pos
        have hxr := cell_below HO.out.2 hx
        have qa1 : ((na : Int) == 0) = false := by simp; omega
        have qa2 : (0 : Int) < (na : Int) := by omega
        have qa3 : decide (0 < na) = true := by simp; omega
        have qa4 : (1 : Int) ≤ (na : Int) := by omega
        obtain ⟨TA, hTA, hta⟩ := ha.tail2
        have HTA := Lib.hid hta
        have HA := Lib.hid ha
        have HB := Lib.hid hb
        clear ha hb hx hta
        have HT := Lib.hid (mrg_l ht)
        clear ht HM
        go_wp2
        go_quiet (fail)
        go_wp2
        go_quiet (fail)
        go_wp2
        go_quiet (fail)
        go_wp2_with fail
        refine (st_union _ _ true rfl _).mono ?_
        rintro e w3 ⟨rfl, rfl⟩
        go_wp2_with (at_builtin; refine wpList_appI (w0 := w2) rfl _ _ rfl g _ 1 1 os [x] rfl rfl (by first | exact (HO.out.alloc _).drewN _ | exact (HO.out.drewN _).alloc _) (by rfl) (by first | exact IntsAt.drewN (ints_new _ [x] 3) _ | exact ints_new _ [x] 3) (by simp; omega) ?_; intro v4 w4 h4 hg4; have H4 := Lib.hid h4; clear h4 hg4)
        go_roundw
        case rel => exact ⟨_, _, _, _, _, _, _, rfl, rfl, rfl, ⟨us, [], os ++ [x], HTA.out, HB.out, H4.out, HT.out, by simp; omega⟩⟩
        case measure => simp [lenOfV]; omega
      · obtain ⟨b1, o1, rfl, hx⟩ := ha.head
        have p1 := ha.pos
        have hxr := cell_below HO.out.2 hx
        have qa1 : ((na : Int) == 0) = false := by simp; omega
        have qa2 : (0 : Int) < (na : Int) := by omega
        have qa3 : decide (0 < na) = true := by simp; omega
        have qa4 : (1 : Int) ≤ (na : Int) := by omega
        obtain ⟨b2, o2, rfl, hy⟩ := hb.head
        have p2 := hb.pos
        have hyr := cell_below HO.out.2 hy
        have qb1 : ((nb : Int) == 0) = false := by simp; omega
        have qb2 : (0 : Int) < (nb : Int) := by omega
        have qb3 : decide (0 < nb) = true := by simp; omega
        have qb4 : (1 : Int) ≤ (nb : Int) := by omega
        rcases Int.lt_trichotomy x y with hxy | hxy | hxy
        · have r1 : x ≤ y := by omega
          have r2 : ¬ y ≤ x := by omega
          have hd : decide (y ≤ x) = false := by simpa using hxy
          obtain ⟨TA, hTA, hta⟩ := ha.tail2
          have HTA := Lib.hid hta
          have HA := Lib.hid ha
          have HB := Lib.hid hb
          clear ha hb hx hy hta
          have HT := Lib.hid (mrg_lt ht hxy)
          clear ht HM
          go_wp2
          go_quiet (fail)
          go_wp2
          go_quiet (fail)
          go_wp2
          go_quiet (fail)
          go_wp2_with fail
          refine (st_union _ _ true rfl _).mono ?_
          rintro e w3 ⟨rfl, rfl⟩
          go_wp2_with (at_builtin; refine wpList_appI (w0 := w2) rfl _ _ rfl g _ 1 1 os [x] rfl rfl (by first | exact (HO.out.alloc _).drewN _ | exact (HO.out.drewN _).alloc _) (by rfl) (by first | exact IntsAt.drewN (ints_new _ [x] 3) _ | exact ints_new _ [x] 3) (by simp; omega) ?_; intro v4 w4 h4 hg4; have H4 := Lib.hid h4; clear h4 hg4)
          go_roundw
          case rel => exact ⟨_, _, _, _, _, _, _, rfl, rfl, rfl, ⟨us, y :: vs, os ++ [x], HTA.out, HB.out, H4.out, HT.out, by simp; omega⟩⟩
          case measure => simp [lenOfV]; omega
        · subst hxy
          obtain ⟨TA, hTA, hta⟩ := ha.tail2
          have HTA := Lib.hid hta
          obtain ⟨TB, hTB, htb⟩ := hb.tail2
          have HTB := Lib.hid htb
          have HA := Lib.hid ha
          have HB := Lib.hid hb
          clear ha hb hx hy hta htb
          have HT := Lib.hid (mrg_eq ht)
          clear ht HM
          go_wp2
          go_quiet (fail)
          go_wp2
          go_quiet (fail)
          go_wp2
          go_quiet (fail)
          go_wp2
          go_quiet (fail)
          go_wp2_with fail
          refine (st_union _ _ true rfl _).mono ?_
          rintro e w3 ⟨rfl, rfl⟩
          go_wp2_with (at_builtin; refine wpList_appI (w0 := w2) rfl _ _ rfl g _ 1 1 os [x] rfl rfl (by first | exact (HO.out.alloc _).drewN _ | exact (HO.out.drewN _).alloc _) (by rfl) (by first | exact IntsAt.drewN (ints_new _ [x] 3) _ | exact ints_new _ [x] 3) (by simp; omega) ?_; intro v4 w4 h4 hg4; have H4 := Lib.hid h4; clear h4 hg4)
          go_roundw
          case rel => exact ⟨_, _, _, _, _, _, _, rfl, rfl, rfl, ⟨us, vs, os ++ [x], HTA.out, HTB.out, H4.out, HT.out, by simp; omega⟩⟩
          case measure => simp [lenOfV]; omega
        · have r1 : y ≤ x := by omega
          have r2 : ¬ x ≤ y := by omega
          have hd : decide (x ≤ y) = false := by simpa using hxy
          obtain ⟨TB, hTB, htb⟩ := hb.tail2
          have HTB := Lib.hid htb
          have HA := Lib.hid ha
          have HB := Lib.hid hb
          clear ha hb hx hy htb
          have HT := Lib.hid (mrg_gt ht hxy)
          clear ht HM
          go_wp2
          go_quiet (fail)
          go_wp2
          go_quiet (fail)
          go_wp2
          go_quiet (fail)
          go_wp2_with fail
          refine (st_union _ _ true rfl _).mono ?_
          rintro e w3 ⟨rfl, rfl⟩
          go_wp2_with (at_builtin; refine wpList_appI (w0 := w2) rfl _ _ rfl g _ 1 1 os [y] rfl rfl (by first | exact (HO.out.alloc _).drewN _ | exact (HO.out.drewN _).alloc _) (by rfl) (by first | exact IntsAt.drewN (ints_new _ [y] 3) _ | exact ints_new _ [y] 3) (by simp; omega) ?_; intro v4 w4 h4 hg4; have H4 := Lib.hid h4; clear h4 hg4)
          go_roundw
          case rel => exact ⟨_, _, _, _, _, _, _, rfl, rfl, rfl, ⟨x :: us, vs, os ++ [y], HA.out, HTB.out, H4.out, HT.out, by simp; omega⟩⟩
          case measure => simp [lenOfV]; omega

set_option maxHeartbeats 4000000 in
set_option maxRecDepth 100000 in
theorem merged_meet {w : World} {A B : Option Addr} {na ca nb cb : Nat} {xs ys : List Int} (ha : CutI w A na ca xs) (hb : CutI w B nb cb ys) (hl : (na + nb) * 8 ≤ 140737488355328) :
    Calls Try.prog 28 #[.slice A na ca, .slice B nb cb, .func (.func 30) #[] #[]] w fun e w' => ∃ v, e = .returned v ∧ OwnI w v (mergedOf stMeet xs ys) w' := by
  have hna := ha.1
  have hnb := hb.1
  subst hna hnb
  have HA := Lib.hid ha
  have HB := Lib.hid hb
  clear ha hb
  go_enter Try.func28, Try.ntmps28
  go_wp2_with fail
  refine (sort_in HA.out.2.1 ca (by omega)).mono ?_
  rintro e w1 ⟨v1, rfl, h1⟩
  have H1 := Lib.hid h1
  have HB1 := Lib.hid (HB.out.2.1.below h1.2)
  clear h1
  go_wp2_with fail
  refine (sort_in HB1.out cb (by omega)).mono ?_
  rintro e w2 ⟨v2, rfl, h2⟩
  obtain ⟨A1, n1, c1, rfl, s1⟩ := H1.out.sliceI.below h2.2
  obtain ⟨B1, m1, d1, rfl, s2⟩ := h2.sliceI
  have S1 := Lib.hid s1
  have S2 := Lib.hid s2
  have B2 := Lib.hid (H1.out.2.trans (Below.to h2.2 H1.out.2.size))
  have L1 : n1 ≤ xs.length := by have := s1.1; have := srtd_length xs; rw [srtd_eq] at *; omega
  have L2 : m1 ≤ ys.length := by have := s2.1; have := srtd_length ys; rw [srtd_eq] at *; omega
  clear H1 HB1 h2 s1 s2 HA HB
  go_wp2_with fail
  go_loopw [0, 1, 7] (fun va vb vo wr => ∃ (A B : Option Addr) (na ca nb cb : Nat) (g : Value), va = .slice A na ca ∧ vb = .slice B nb cb ∧ g = vo ∧ Hid (∃ us vs os, MrgAt stMeet (mergedOf stMeet xs ys) w2 (xs.length + ys.length) A B na ca nb cb g wr us vs os)) (fun va vb _ _ => lenOfV va + lenOfV vb)
  case atStart => exact ⟨A1, B1, n1, c1, m1, d1, _, rfl, rfl, rfl, ⟨_, _, [], S1.out, S2.out, OwnI.nil w2, rfl, by simp; omega⟩⟩
  case round =>
    obtain ⟨A, B, na, ca, nb, cb, g, rfl, rfl, rfl, HM⟩ := hrel
    obtain ⟨us, vs, os, ha, hb, ho, ht, hle⟩ := HM.out
    have hca : na ≤ ca := ha.2.2.1
    have hcam : ca ≤ 9223372036854775807 := ha.2.2.2
    have hcb : nb ≤ cb := hb.2.2.1
    have hcbm : cb ≤ 9223372036854775807 := hb.2.2.2
    have HO := Lib.hid ho
    clear ho
    rcases us with _ | ⟨x, us⟩
    · have hz : na = 0 := ha.1
      subst hz
      rcases vs with _ | ⟨y, vs⟩
      · have hz : nb = 0 := hb.1
        subst hz
        have HT := Lib.hid ht
        clear ha hb ht HM
        go_wp2
        go_ret
        exact ⟨_, rfl, by have h1 := HT.out; rw [mrg, List.append_nil] at h1; rw [← h1]; exact ⟨ownsRow_base HO.out.1 (fun g hg => by have h5 := (HO.out.1.lt g hg).1; have h6 := B2.out.size; omega), B2.out.trans (Below.to HO.out.2 B2.out.size)⟩⟩
      · obtain ⟨b2, o2, rfl, hy⟩ := hb.head
        have p2 := hb.pos
        have hyr := cell_below HO.out.2 hy
        have qb1 : ((nb : Int) == 0) = false := by simp; omega
        have qb2 : (0 : Int) < (nb : Int) := by omega
        have qb3 : decide (0 < nb) = true := by simp; omega
        have qb4 : (1 : Int) ≤ (nb : Int) := by omega
        obtain ⟨TB, hTB, htb⟩ := hb.tail2
        have HTB := Lib.hid htb
        have HA := Lib.hid ha
        have HB := Lib.hid hb
        clear ha hb hy htb
        have HT := Lib.hid (mrg_r ht)
        clear ht HM
        go_wp2
        go_quiet (fail)
        go_wp2
        go_quiet (fail)
        go_wp2
        go_quiet (fail)
        go_wp2_with fail
        refine (st_meet _ _ false rfl _).mono ?_
        rintro e w3 ⟨rfl, rfl⟩
        go_wp2
        go_roundw
        case rel => exact ⟨_, _, _, _, _, _, _, rfl, rfl, rfl, ⟨[], vs, os, HA.out, HTB.out, HO.out.drewN _, by have h1 := HT.out; simpa [opt, stMeet] using h1, by omega⟩⟩
        case measure => simp [lenOfV]; omega
    · rcases vs with _ | ⟨y, vs⟩
      · have hz : nb = 0 := hb.1
        subst hz
        obtain ⟨b1, o1, rfl, hx⟩ := ha.head
        have p1 := ha.pos
        have hxr := cell_below HO.out.2 hx
        have qa1 : ((na : Int) == 0) = false := by simp; omega
        have qa2 : (0 : Int) < (na : Int) := by omega
        have qa3 : decide (0 < na) = true := by simp; omega
        have qa4 : (1 : Int) ≤ (na : Int) := by omega
        obtain ⟨TA, hTA, hta⟩ := ha.tail2
        have HTA := Lib.hid hta
        have HA := Lib.hid ha
        have HB := Lib.hid hb
        clear ha hb hx hta
        have HT := Lib.hid (mrg_l ht)
        clear ht HM
        go_wp2
        go_quiet (fail)
        go_wp2
        go_quiet (fail)
        go_wp2
        go_quiet (fail)
        go_wp2_with fail
        refine (st_meet _ _ false rfl _).mono ?_
        rintro e w3 ⟨rfl, rfl⟩
        go_wp2
        go_roundw
        case rel => exact ⟨_, _, _, _, _, _, _, rfl, rfl, rfl, ⟨us, [], os, HTA.out, HB.out, HO.out.drewN _, by have h1 := HT.out; simpa [opt, stMeet] using h1, by omega⟩⟩
        case measure => simp [lenOfV]; omega
      · obtain ⟨b1, o1, rfl, hx⟩ := ha.head
        have p1 := ha.pos
        have hxr := cell_below HO.out.2 hx
        have qa1 : ((na : Int) == 0) = false := by simp; omega
        have qa2 : (0 : Int) < (na : Int) := by omega
        have qa3 : decide (0 < na) = true := by simp; omega
        have qa4 : (1 : Int) ≤ (na : Int) := by omega
        obtain ⟨b2, o2, rfl, hy⟩ := hb.head
        have p2 := hb.pos
        have hyr := cell_below HO.out.2 hy
        have qb1 : ((nb : Int) == 0) = false := by simp; omega
        have qb2 : (0 : Int) < (nb : Int) := by omega
        have qb3 : decide (0 < nb) = true := by simp; omega
        have qb4 : (1 : Int) ≤ (nb : Int) := by omega
        rcases Int.lt_trichotomy x y with hxy | hxy | hxy
        · have r1 : x ≤ y := by omega
          have r2 : ¬ y ≤ x := by omega
          have hd : decide (y ≤ x) = false := by simpa using hxy
          obtain ⟨TA, hTA, hta⟩ := ha.tail2
          have HTA := Lib.hid hta
          have HA := Lib.hid ha
          have HB := Lib.hid hb
          clear ha hb hx hy hta
          have HT := Lib.hid (mrg_lt ht hxy)
          clear ht HM
          go_wp2
          go_quiet (fail)
          go_wp2
          go_quiet (fail)
          go_wp2
          go_quiet (fail)
          go_wp2_with fail
          refine (st_meet _ _ false rfl _).mono ?_
          rintro e w3 ⟨rfl, rfl⟩
          go_wp2
          go_roundw
          case rel => exact ⟨_, _, _, _, _, _, _, rfl, rfl, rfl, ⟨us, y :: vs, os, HTA.out, HB.out, HO.out.drewN _, by have h1 := HT.out; simpa [opt, stMeet] using h1, by omega⟩⟩
          case measure => simp [lenOfV]; omega
        · subst hxy
          obtain ⟨TA, hTA, hta⟩ := ha.tail2
          have HTA := Lib.hid hta
          obtain ⟨TB, hTB, htb⟩ := hb.tail2
          have HTB := Lib.hid htb
          have HA := Lib.hid ha
          have HB := Lib.hid hb
          clear ha hb hx hy hta htb
          have HT := Lib.hid (mrg_eq ht)
          clear ht HM
          go_wp2
          go_quiet (fail)
          go_wp2
          go_quiet (fail)
          go_wp2
          go_quiet (fail)
          go_wp2
          go_quiet (fail)
          go_wp2_with fail
          refine (st_meet _ _ true rfl _).mono ?_
          rintro e w3 ⟨rfl, rfl⟩
          go_wp2_with (at_builtin; refine wpList_appI (w0 := w2) rfl _ _ rfl g _ 1 1 os [x] rfl rfl (by first | exact (HO.out.alloc _).drewN _ | exact (HO.out.drewN _).alloc _) (by rfl) (by first | exact IntsAt.drewN (ints_new _ [x] 3) _ | exact ints_new _ [x] 3) (by simp; omega) ?_; intro v4 w4 h4 hg4; have H4 := Lib.hid h4; clear h4 hg4)
          go_roundw
          case rel => exact ⟨_, _, _, _, _, _, _, rfl, rfl, rfl, ⟨us, vs, os ++ [x], HTA.out, HTB.out, H4.out, HT.out, by simp; omega⟩⟩
          case measure => simp [lenOfV]; omega
        · have r1 : y ≤ x := by omega
          have r2 : ¬ x ≤ y := by omega
          have hd : decide (x ≤ y) = false := by simpa using hxy
          obtain ⟨TB, hTB, htb⟩ := hb.tail2
          have HTB := Lib.hid htb
          have HA := Lib.hid ha
          have HB := Lib.hid hb
          clear ha hb hx hy htb
          have HT := Lib.hid (mrg_gt ht hxy)
          clear ht HM
          go_wp2
          go_quiet (fail)
          go_wp2
          go_quiet (fail)
          go_wp2
          go_quiet (fail)
          go_wp2_with fail
          refine (st_meet _ _ false rfl _).mono ?_
          rintro e w3 ⟨rfl, rfl⟩
          go_wp2
          go_roundw
          case rel => exact ⟨_, _, _, _, _, _, _, rfl, rfl, rfl, ⟨x :: us, vs, os, HA.out, HTB.out, HO.out.drewN _, by have h1 := HT.out; simpa [opt, stMeet] using h1, by omega⟩⟩
          case measure => simp [lenOfV]; omega

set_option maxHeartbeats 4000000 in
set_option maxRecDepth 100000 in
theorem merged_minus {w : World} {A B : Option Addr} {na ca nb cb : Nat} {xs ys : List Int} (ha : CutI w A na ca xs) (hb : CutI w B nb cb ys) (hl : (na + nb) * 8 ≤ 140737488355328) :
    Calls Try.prog 28 #[.slice A na ca, .slice B nb cb, .func (.func 32) #[] #[]] w fun e w' => ∃ v, e = .returned v ∧ OwnI w v (mergedOf stMinus xs ys) w' := by
  have hna := ha.1
  have hnb := hb.1
  subst hna hnb
  have HA := Lib.hid ha
  have HB := Lib.hid hb
  clear ha hb
  go_enter Try.func28, Try.ntmps28
  go_wp2_with fail
  refine (sort_in HA.out.2.1 ca (by omega)).mono ?_
  rintro e w1 ⟨v1, rfl, h1⟩
  have H1 := Lib.hid h1
  have HB1 := Lib.hid (HB.out.2.1.below h1.2)
  clear h1
  go_wp2_with fail
  refine (sort_in HB1.out cb (by omega)).mono ?_
  rintro e w2 ⟨v2, rfl, h2⟩
  obtain ⟨A1, n1, c1, rfl, s1⟩ := H1.out.sliceI.below h2.2
  obtain ⟨B1, m1, d1, rfl, s2⟩ := h2.sliceI
  have S1 := Lib.hid s1
  have S2 := Lib.hid s2
  have B2 := Lib.hid (H1.out.2.trans (Below.to h2.2 H1.out.2.size))
  have L1 : n1 ≤ xs.length := by have := s1.1; have := srtd_length xs; rw [srtd_eq] at *; omega
  have L2 : m1 ≤ ys.length := by have := s2.1; have := srtd_length ys; rw [srtd_eq] at *; omega
  clear H1 HB1 h2 s1 s2 HA HB
  go_wp2_with fail
  go_loopw [0, 1, 7] (fun va vb vo wr => ∃ (A B : Option Addr) (na ca nb cb : Nat) (g : Value), va = .slice A na ca ∧ vb = .slice B nb cb ∧ g = vo ∧ Hid (∃ us vs os, MrgAt stMinus (mergedOf stMinus xs ys) w2 (xs.length + ys.length) A B na ca nb cb g wr us vs os)) (fun va vb _ _ => lenOfV va + lenOfV vb)
  case atStart => exact ⟨A1, B1, n1, c1, m1, d1, _, rfl, rfl, rfl, ⟨_, _, [], S1.out, S2.out, OwnI.nil w2, rfl, by simp; omega⟩⟩
  case round =>
    obtain ⟨A, B, na, ca, nb, cb, g, rfl, rfl, rfl, HM⟩ := hrel
    obtain ⟨us, vs, os, ha, hb, ho, ht, hle⟩ := HM.out
    have hca : na ≤ ca := ha.2.2.1
    have hcam : ca ≤ 9223372036854775807 := ha.2.2.2
    have hcb : nb ≤ cb := hb.2.2.1
    have hcbm : cb ≤ 9223372036854775807 := hb.2.2.2
    have HO := Lib.hid ho
    clear ho
    rcases us with _ | ⟨x, us⟩
    · have hz : na = 0 := ha.1
      subst hz
      rcases vs with _ | ⟨y, vs⟩
      · have hz : nb = 0 := hb.1
        subst hz
        have HT := Lib.hid ht
        clear ha hb ht HM
        go_wp2
        go_ret
        exact ⟨_, rfl, by have h1 := HT.out; rw [mrg, List.append_nil] at h1; rw [← h1]; exact ⟨ownsRow_base HO.out.1 (fun g hg => by have h5 := (HO.out.1.lt g hg).1; have h6 := B2.out.size; omega), B2.out.trans (Below.to HO.out.2 B2.out.size)⟩⟩
      · obtain ⟨b2, o2, rfl, hy⟩ := hb.head
        have p2 := hb.pos
        have hyr := cell_below HO.out.2 hy
        have qb1 : ((nb : Int) == 0) = false := by simp; omega
        have qb2 : (0 : Int) < (nb : Int) := by omega
        have qb3 : decide (0 < nb) = true := by simp; omega
        have qb4 : (1 : Int) ≤ (nb : Int) := by omega
        obtain ⟨TB, hTB, htb⟩ := hb.tail2
        have HTB := Lib.hid htb
        have HA := Lib.hid ha
        have HB := Lib.hid hb
        clear ha hb hy htb
        have HT := Lib.hid (mrg_r ht)
        clear ht HM
        go_wp2
        go_quiet (fail)
        go_wp2
        go_quiet (fail)
        go_wp2
        go_quiet (fail)
        go_wp2_with fail
        refine (st_minus _ _ false rfl _).mono ?_
        rintro e w3 ⟨rfl, rfl⟩
        go_wp2
        go_roundw
        case rel => exact ⟨_, _, _, _, _, _, _, rfl, rfl, rfl, ⟨[], vs, os, HA.out, HTB.out, HO.out.drewN _, by have h1 := HT.out; simpa [opt, stMinus] using h1, by omega⟩⟩
        case measure => simp [lenOfV]; omega
    · rcases vs with _ | ⟨y, vs⟩
      · have hz : nb = 0 := hb.1
        subst hz
        obtain ⟨b1, o1, rfl, hx⟩ := ha.head
        have p1 := ha.pos
        have hxr := cell_below HO.out.2 hx
        have qa1 : ((na : Int) == 0) = false := by simp; omega
        have qa2 : (0 : Int) < (na : Int) := by omega
        have qa3 : decide (0 < na) = true := by simp; omega
        have qa4 : (1 : Int) ≤ (na : Int) := by omega
        obtain ⟨TA, hTA, hta⟩ := ha.tail2
        have HTA := Lib.hid hta
        have HA := Lib.hid ha
        have HB := Lib.hid hb
        clear ha hb hx hta
        have HT := Lib.hid (mrg_l ht)
        clear ht HM
        go_wp2
        go_quiet (fail)
        go_wp2
        go_quiet (fail)
        go_wp2
        go_quiet (fail)
        go_wp2_with fail
        refine (st_minus _ _ true rfl _).mono ?_
        rintro e w3 ⟨rfl, rfl⟩
        go_wp2_with (at_builtin; refine wpList_appI (w0 := w2) rfl _ _ rfl g _ 1 1 os [x] rfl rfl (by first | exact (HO.out.alloc _).drewN _ | exact (HO.out.drewN _).alloc _) (by rfl) (by first | exact IntsAt.drewN (ints_new _ [x] 3) _ | exact ints_new _ [x] 3) (by simp; omega) ?_; intro v4 w4 h4 hg4; have H4 := Lib.hid h4; clear h4 hg4)
        go_roundw
        case rel => exact ⟨_, _, _, _, _, _, _, rfl, rfl, rfl, ⟨us, [], os ++ [x], HTA.out, HB.out, H4.out, HT.out, by simp; omega⟩⟩
        case measure => simp [lenOfV]; omega
      · obtain ⟨b1, o1, rfl, hx⟩ := ha.head
        have p1 := ha.pos
        have hxr := cell_below HO.out.2 hx
        have qa1 : ((na : Int) == 0) = false := by simp; omega
        have qa2 : (0 : Int) < (na : Int) := by omega
        have qa3 : decide (0 < na) = true := by simp; omega
        have qa4 : (1 : Int) ≤ (na : Int) := by omega
        obtain ⟨b2, o2, rfl, hy⟩ := hb.head
        have p2 := hb.pos
        have hyr := cell_below HO.out.2 hy
        have qb1 : ((nb : Int) == 0) = false := by simp; omega
        have qb2 : (0 : Int) < (nb : Int) := by omega
        have qb3 : decide (0 < nb) = true := by simp; omega
        have qb4 : (1 : Int) ≤ (nb : Int) := by omega
        rcases Int.lt_trichotomy x y with hxy | hxy | hxy
        · have r1 : x ≤ y := by omega
          have r2 : ¬ y ≤ x := by omega
          have hd : decide (y ≤ x) = false := by simpa using hxy
          obtain ⟨TA, hTA, hta⟩ := ha.tail2
          have HTA := Lib.hid hta
          have HA := Lib.hid ha
          have HB := Lib.hid hb
          clear ha hb hx hy hta
          have HT := Lib.hid (mrg_lt ht hxy)
          clear ht HM
          go_wp2
          go_quiet (fail)
          go_wp2
          go_quiet (fail)
          go_wp2
          go_quiet (fail)
          go_wp2_with fail
          refine (st_minus _ _ true rfl _).mono ?_
          rintro e w3 ⟨rfl, rfl⟩
          go_wp2_with (at_builtin; refine wpList_appI (w0 := w2) rfl _ _ rfl g _ 1 1 os [x] rfl rfl (by first | exact (HO.out.alloc _).drewN _ | exact (HO.out.drewN _).alloc _) (by rfl) (by first | exact IntsAt.drewN (ints_new _ [x] 3) _ | exact ints_new _ [x] 3) (by simp; omega) ?_; intro v4 w4 h4 hg4; have H4 := Lib.hid h4; clear h4 hg4)
          go_roundw
          case rel => exact ⟨_, _, _, _, _, _, _, rfl, rfl, rfl, ⟨us, y :: vs, os ++ [x], HTA.out, HB.out, H4.out, HT.out, by simp; omega⟩⟩
          case measure => simp [lenOfV]; omega
        · subst hxy
          obtain ⟨TA, hTA, hta⟩ := ha.tail2
          have HTA := Lib.hid hta
          obtain ⟨TB, hTB, htb⟩ := hb.tail2
          have HTB := Lib.hid htb
          have HA := Lib.hid ha
          have HB := Lib.hid hb
          clear ha hb hx hy hta htb
          have HT := Lib.hid (mrg_eq ht)
          clear ht HM
          go_wp2
          go_quiet (fail)
          go_wp2
          go_quiet (fail)
          go_wp2
          go_quiet (fail)
          go_wp2
          go_quiet (fail)
          go_wp2_with fail
          refine (st_minus _ _ false rfl _).mono ?_
          rintro e w3 ⟨rfl, rfl⟩
          go_wp2
          go_roundw
          case rel => exact ⟨_, _, _, _, _, _, _, rfl, rfl, rfl, ⟨us, vs, os, HTA.out, HTB.out, HO.out.drewN _, by have h1 := HT.out; simpa [opt, stMinus] using h1, by omega⟩⟩
          case measure => simp [lenOfV]; omega
        · have r1 : y ≤ x := by omega
          have r2 : ¬ x ≤ y := by omega
          have hd : decide (x ≤ y) = false := by simpa using hxy
          obtain ⟨TB, hTB, htb⟩ := hb.tail2
          have HTB := Lib.hid htb
          have HA := Lib.hid ha
          have HB := Lib.hid hb
          clear ha hb hx hy htb
          have HT := Lib.hid (mrg_gt ht hxy)
          clear ht HM
          go_wp2
          go_quiet (fail)
          go_wp2
          go_quiet (fail)
          go_wp2
          go_quiet (fail)
          go_wp2_with fail
          refine (st_minus _ _ false rfl _).mono ?_
          rintro e w3 ⟨rfl, rfl⟩
          go_wp2
          go_roundw
          case rel => exact ⟨_, _, _, _, _, _, _, rfl, rfl, rfl, ⟨x :: us, vs, os, HA.out, HTB.out, HO.out.drewN _, by have h1 := HT.out; simpa [opt, stMinus] using h1, by omega⟩⟩
          case measure => simp [lenOfV]; omega

end Go.Proofs.Ytieahneoofdneaa
